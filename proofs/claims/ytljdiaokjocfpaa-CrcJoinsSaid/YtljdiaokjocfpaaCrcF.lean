/- The walk of the law on joins. -/
import Derived.Test.YtljdiaokjocfpaaCrcE
import Derived.Test.YtljdiaokjocfpaaA
namespace Go.Proofs.Ytljdiaokjocfpaa.Crc
open Go.RowKit Go.Proofs.Ytljdiaokjocfpaa.L Go.Proofs.Ytljdiaokjocfpaa.O Go.Proofs.Ytljdiaokjocfpaa.R Go.Proofs.Ytljdiaokjocfpaa.A
set_option linter.unusedVariables false
set_option linter.unusedSimpArgs false

theorem bytes_more (sum : Nat) (x y : List Nat) : more (more sum x) y = more sum (x ++ y) := by
  simp only [more, bytes_append, Nat.xor_assoc, Nat.xor_self, Nat.xor_zero]
theorem cut_join (sa sb_ : List ByteArray) (cs : ByteArray) (k : Nat) (h : cs = cat sb_) (hk : k ≤ cs.size) : sbs (sa ++ [cs.extract 0 k, cs.extract k cs.size]) = sbs (sa ++ sb_) := by
  have e : sb (cs.extract 0 k) ++ sb (cs.extract k cs.size) = sb cs := by
    unfold sb
    rw [← List.map_append]
    congr 1
    rw [ByteArray.data_extract, ByteArray.data_extract]
    simp only [Array.toList_extract, List.extract_eq_take_drop, List.drop_zero, Nat.sub_zero]
    have hs : cs.size = cs.data.toList.length := by simp
    rw [hs, List.take_of_length_le (l := List.drop k cs.data.toList) (by simp), List.take_append_drop]
  have e2 : sbs (sa ++ [cs.extract 0 k, cs.extract k cs.size]) = sbs sa ++ (sb (cs.extract 0 k) ++ sb (cs.extract k cs.size)) := by simp [sbs]
  rw [e2, e, h, sb_cat]
  simp [sbs]
set_option maxHeartbeats 8000000 in
theorem joins_go (w : World) (A Ab : Option Addr) (na ca nb cb : Nat) (sa sb_ : List ByteArray) (at_ : Int) (hra : Rd w A na (sa.map Value.string)) (hrb : Rd w Ab nb (sb_.map Value.string)) (hsa : ∀ s ∈ sa, s.size ≤ 140737488351232) (hsb : ∀ s ∈ sb_, s.size ≤ 140737488351232)
    (hla0 : longB sa = false) (hlb0 : longB sb_ = false) (hAn : A = none → na = 0 ∧ ca = 0) (hBn : Ab = none → nb = 0 ∧ cb = 0) (k : Nat) (hk : k ≤ total sb_) (hat : (at_ = k ∨ k = 0 ∧ (at_ < 0 ∨ (total sb_ : Int) < at_))) :
    Calls Try.prog 6 #[.slice A na ca, .slice Ab nb cb, .int .i64 at_] w fun e w' => e = .returned (.bool true) ∧ Below w.heap.size w w' := by
  have hTa := longB_total hla0
  have hTb := longB_total hlb0
  have hla : Hid (sa.length = na) := Lib.hid (by have := hra.len; simpa using this)
  have hlb : Hid (sb_.length = nb) := Lib.hid (by have := hrb.len; simpa using this)
  have hna : na ≤ 60 := by have := hla.out; omega
  have hnb : nb ≤ 60 := by have := hlb.out; omega
  have HLa := Lib.hid hla0
  have HLb := Lib.hid hlb0
  have Hsa := Lib.hid hsa
  have Hsb := Lib.hid hsb
  have HAn := Lib.hid hAn
  have HBn := Lib.hid hBn
  clear hla0 hlb0 hsa hsb hAn hBn
  obtain ⟨cs, hcs⟩ : ∃ cs : ByteArray, Hid (cs = cat sb_) := ⟨_, Lib.hid rfl⟩
  have hcsz : Hid (cs.size = total sb_) := Lib.hid (by rw [hcs.out, cat_size])
  have hkc : k ≤ cs.size := by rw [hcsz.out]; exact hk
  have hcs3 : cs.size ≤ 3000 := by rw [hcsz.out]; exact hTb.2
  have hat' : at_ = k ∨ k = 0 ∧ (at_ < 0 ∨ (cs.size : Int) < at_) := by rw [hcsz.out]; exact hat
  have h12 : Hid (((more (more 0 (sbs sa)) (sbs sb_) : Nat) : Int) = ((more 0 (sbs (sa ++ sb_)) : Nat) : Int)) := Lib.hid (by rw [bytes_more]; simp [sbs])
  clear hat hTa hTb
  go_enter Try.func6, Try.ntmps6
  go_wp2_with fail
  refine (awake_any _).mono ?_
  rintro e w1 ⟨rfl, hb1⟩
  go_wp2_with fail
  refine (long_any _ _ _ sa _ (hra.below hb1) Hsa.out).mono ?_
  rintro e w2 ⟨rfl, rfl⟩
  rw [HLa.out]
  go_wp2_with fail
  refine (long_any _ _ _ sb_ _ (hrb.below hb1) Hsb.out).mono ?_
  rintro e w2 ⟨rfl, rfl⟩
  rw [HLb.out]
  go_wp2_with fail
  refine (joined_any _ _ _ sb_ _ (hrb.below hb1) (by rw [← hcsz.out]; omega)).mono ?_
  rintro e w2 ⟨rfl, rfl⟩
  rw [← hcs.out]
  rcases hat' with hat | ⟨hk0, hat⟩
  · subst hat
    have HK : Hid True := Lib.hid trivial
    have hla2 := hla.out
    have hlb2 := hlb.out
    have lsa := Rd.lies (hra.below hb1)
    have lsb := Rd.lies (hrb.below hb1)
    have oa : ∀ u ∈ sa.map Value.string, u.oneCell' = true := by simp [Value.oneCell']
    have ob : ∀ u ∈ sb_.map Value.string, u.oneCell' = true := by simp [Value.oneCell']
    have la1 : (sa.map Value.string).length = na * 1 := by simpa using hla2
    have lb1 : (sb_.map Value.string).length = nb * 1 := by simpa using hlb2
    have hla3 := Lib.hid la1
    have hlb3 := Lib.hid lb1
    clear la1 lb1 hla2 hlb2
    go_wp2_with (first | (at_builtin; refine wpList_append_src _ rfl (.tmp 27) (.tmp 28) w1.heap.size 22 9 (.string ⟨#[]⟩) 1 16 rfl (by kernel_rfl) (by kernel_rfl) rfl (by decide) (by decide) _ 0 [] rfl (World.ownsRow_lit (size := 1) w1 #[] 0 (Nat.le_refl _) (by decide) rfl) A na ca rfl HAn.out (sa.map Value.string) hla3.out (lsa.below ((Below.refl _ _).alloc (Nat.le_refl _) _)) oa (by omega) (by simp) ?_; intro v1 w2 ho1 hg1 hv1) | (at_builtin; go_loud (refine wpList_append_src _ rfl (.tmp 29) (.tmp 30) w1.heap.size 22 9 (.string ⟨#[]⟩) 1 16 rfl (by kernel_rfl) (by kernel_rfl) rfl (by decide) (by decide) v1 (0 + na) _ rfl ho1 Ab nb cb rfl HBn.out (sb_.map Value.string) hlb3.out (lsb.below (below_first hg1)) ob (by omega) (below_first hg1).size ?_); intro v2 w3 ho2 hg2 hv2))
    obtain ⟨A3, c3, rfl, hr3, _⟩ := own_rd ho2
    refine (sum_any _ _ _ (sa ++ sb_) _ (by simpa using hr3) (by simpa using fun s hs => hs.elim (Hsa.out s) (Hsb.out s))).mono ?_
    rintro e wk ⟨rfl, hb4⟩
    have hbK : Below w.heap.size w wk := below2 (hb1.trans (((below_first hg1).trans (below_next ho1 (below_first hg1).size hg2)).mono hb1.size)) hb4
    clear hr3 ho2 hg2 hv2 ho1 hg1 hv1 hb4 lsa lsb
    have Hra := Lib.hid (hra.below hbK)
    have Hrb := Lib.hid (hrb.below hbK)
    have Hcut : Hid (sbs (sa ++ [cs.extract 0 k, cs.extract k cs.size]) = sbs (sa ++ sb_)) := Lib.hid (cut_join sa sb_ cs k hcs.out hkc)
    have hcut := Hcut.out
    have hsj : ∀ s ∈ sa ++ [cs.extract 0 k, cs.extract k cs.size], s.size ≤ 140737488351232 := by
      intro s hs
      rcases List.mem_append.1 hs with hs | hs
      · exact Hsa.out s hs
      · have h3 : (cs.extract 0 k).size ≤ cs.size := by simp; omega
        have h4 : (cs.extract k cs.size).size ≤ cs.size := by simp
        simp only [List.mem_cons, List.not_mem_nil, or_false] at hs
        rcases hs with rfl | rfl <;> omega
    go_wp2_with fail
    refine wp_region_by (fun W => wk.heap.size ≤ W.heap.size) (fun u v => Below wk.heap.size u v) (fun k u v => ((k = 17) → (fun u v => Below wk.heap.size u v) u v) ∧ (¬ (k = 17) → (fun u v => Below u.heap.size u v ∧ Below wk.heap.size u v) u v)) (fun a i => match i with
        | 0 => (fun v _ => v = a.tmps.getD 0 undef)
        | 1 => (fun v _ => v = .int .u32 ((more 0 (sbs sa) : Nat) : Int))
        | 2 => (fun v _ => v = a.tmps.getD 1 undef)
        | 3 => (fun v _ => v = .int .u32 ((more (more 0 (sbs sa)) (sbs sb_) : Nat) : Int))
        | 4 => (fun v _ => v = a.tmps.getD 8 undef)
        | 5 => (fun v _ => v = .bool true)
        | 6 => (fun v _ => v = .bool true)
        | 7 => (fun v w => ∃ A0, v = .slice A0 0 0 ∧ w.ownsRow wk.heap.size 9 1 v 0 [])
        | 8 => (fun v _ => v = a.tmps.getD 0 undef)
        | 9 => (fun v w => w.ownsRow wk.heap.size 9 1 v na (sa.map Value.string))
        | 10 => (fun v _ => v = a.tmps.getD 7 undef)
        | 11 => (fun v _ => v = a.tmps.getD 2 undef)
        | 12 => (fun v _ => v = .string (cs.extract 0 k))
        | 13 => (fun v _ => v = a.tmps.getD 7 undef)
        | 14 => (fun v _ => v = a.tmps.getD 2 undef)
        | 15 => (fun v _ => v = .string (cs.extract k cs.size))
        | 16 => (fun v w => ∃ g, v = .slice (some ⟨g, 0, none⟩) 2 2 ∧ g < w.heap.size ∧ w.heap[g]? = some (.cells #[.string (cs.extract 0 k), .string (cs.extract k cs.size)] 9 (0, 0)))
        | 17 => (fun v w => w.ownsRow wk.heap.size 9 1 v (na + 2) (sa.map Value.string ++ [.string (cs.extract 0 k), .string (cs.extract k cs.size)]))
        | 18 => (fun v _ => v = .int .u32 ((more 0 (sbs (sa ++ sb_)) : Nat) : Int))
        | 19 => (fun v _ => v = a.tmps.getD 8 undef)
        | 20 => (fun v _ => v = .bool true)
        | 21 => (fun v _ => v = .bool true)
        | 22 => (fun v _ => v = .bool true)
        | _ => (fun _ _ => True)) #[0, 1, 0, 7, 0, 31, 63, 127, 127, 511, 127, 127, 3199, 127, 127, 24703, 64639, 131071, 262143, 127, 1048575, 2097151, 4194303] #[0, 1, 0, 6, 0, 24, 32, 64, 64, 448, 64, 64, 3136, 64, 64, 24640, 36928, 66112, 131136, 64, 786496, 1048640, 2097152] 8191359 (by kernel_rfl) 23 rfl (fun m hm => by subst hm; kernel_rfl) (by kernel_rfl) (fun w => Below.refl _ _) (fun u v w h1 h2 => Below.trans h1 h2) ?_ ?_ (Nat.le_refl _) ?_ ?_
    · intro k u v hk hr
      by_cases hs : k = 17
      · have h := hr.1 hs; exact h
      · have h := hr.2 hs; exact h.2
    · intro i hi
      rcases (by omega : i = 0 ∨ i = 1 ∨ i = 2 ∨ i = 3 ∨ i = 4 ∨ i = 5 ∨ i = 6 ∨ i = 7 ∨ i = 8 ∨ i = 9 ∨ i = 10 ∨ i = 11 ∨ i = 12 ∨ i = 13 ∨ i = 14 ∨ i = 15 ∨ i = 16 ∨ i = 17 ∨ i = 18 ∨ i = 19 ∨ i = 20 ∨ i = 21 ∨ i = 22) with rfl | rfl | rfl | rfl | rfl | rfl | rfl | rfl | rfl | rfl | rfl | rfl | rfl | rfl | rfl | rfl | rfl | rfl | rfl | rfl | rfl | rfl | rfl
      · intro k hk q hq hqt v w w' h hr
        by_cases hs : k = 17
        · have hr0 := hr.1 hs
          rcases hs with rfl
          · exact (fun (h : _) (hr : _) => by exact h) h hr0
        · have hr := hr.2 hs
          exact h
      · intro k hk q hq hqt v w w' h hr
        by_cases hs : k = 17
        · have hr0 := hr.1 hs
          rcases hs with rfl
          · exact (fun (h : _) (hr : _) => by exact h) h hr0
        · have hr := hr.2 hs
          exact h
      · intro k hk q hq hqt v w w' h hr
        by_cases hs : k = 17
        · have hr0 := hr.1 hs
          rcases hs with rfl
          · exact (fun (h : _) (hr : _) => by exact h) h hr0
        · have hr := hr.2 hs
          exact h
      · intro k hk q hq hqt v w w' h hr
        by_cases hs : k = 17
        · have hr0 := hr.1 hs
          rcases hs with rfl
          · exact (fun (h : _) (hr : _) => by exact h) h hr0
        · have hr := hr.2 hs
          exact h
      · intro k hk q hq hqt v w w' h hr
        by_cases hs : k = 17
        · have hr0 := hr.1 hs
          rcases hs with rfl
          · exact (fun (h : _) (hr : _) => by exact h) h hr0
        · have hr := hr.2 hs
          exact h
      · intro k hk q hq hqt v w w' h hr
        by_cases hs : k = 17
        · have hr0 := hr.1 hs
          rcases hs with rfl
          · exact (fun (h : _) (hr : _) => by exact h) h hr0
        · have hr := hr.2 hs
          exact h
      · intro k hk q hq hqt v w w' h hr
        by_cases hs : k = 17
        · have hr0 := hr.1 hs
          rcases hs with rfl
          · exact (fun (h : _) (hr : _) => by exact h) h hr0
        · have hr := hr.2 hs
          exact h
      · intro k hk q hq hqt v w w' h hr
        by_cases hs : k = 17
        · have hr0 := hr.1 hs
          rcases hs with rfl
          · exact absurd (hq.trans hqt) (ne_true_of_eq_false (by kernel_rfl))
        · have hr := hr.2 hs
          obtain ⟨A0, h1, h2⟩ := h; exact ⟨A0, h1, own_kept h2 hr.1⟩
      · intro k hk q hq hqt v w w' h hr
        by_cases hs : k = 17
        · have hr0 := hr.1 hs
          rcases hs with rfl
          · exact (fun (h : _) (hr : _) => by exact h) h hr0
        · have hr := hr.2 hs
          exact h
      · intro k hk q hq hqt v w w' h hr
        by_cases hs : k = 17
        · have hr0 := hr.1 hs
          rcases hs with rfl
          · exact absurd (hq.trans hqt) (ne_true_of_eq_false (by kernel_rfl))
        · have hr := hr.2 hs
          exact own_kept h hr.1
      · intro k hk q hq hqt v w w' h hr
        by_cases hs : k = 17
        · have hr0 := hr.1 hs
          rcases hs with rfl
          · exact (fun (h : _) (hr : _) => by exact h) h hr0
        · have hr := hr.2 hs
          exact h
      · intro k hk q hq hqt v w w' h hr
        by_cases hs : k = 17
        · have hr0 := hr.1 hs
          rcases hs with rfl
          · exact (fun (h : _) (hr : _) => by exact h) h hr0
        · have hr := hr.2 hs
          exact h
      · intro k hk q hq hqt v w w' h hr
        by_cases hs : k = 17
        · have hr0 := hr.1 hs
          rcases hs with rfl
          · exact (fun (h : _) (hr : _) => by exact h) h hr0
        · have hr := hr.2 hs
          exact h
      · intro k hk q hq hqt v w w' h hr
        by_cases hs : k = 17
        · have hr0 := hr.1 hs
          rcases hs with rfl
          · exact (fun (h : _) (hr : _) => by exact h) h hr0
        · have hr := hr.2 hs
          exact h
      · intro k hk q hq hqt v w w' h hr
        by_cases hs : k = 17
        · have hr0 := hr.1 hs
          rcases hs with rfl
          · exact (fun (h : _) (hr : _) => by exact h) h hr0
        · have hr := hr.2 hs
          exact h
      · intro k hk q hq hqt v w w' h hr
        by_cases hs : k = 17
        · have hr0 := hr.1 hs
          rcases hs with rfl
          · exact (fun (h : _) (hr : _) => by exact h) h hr0
        · have hr := hr.2 hs
          exact h
      · intro k hk q hq hqt v w w' h hr
        by_cases hs : k = 17
        · have hr0 := hr.1 hs
          rcases hs with rfl
          · exact absurd (hq.trans hqt) (ne_true_of_eq_false (by kernel_rfl))
        · have hr := hr.2 hs
          obtain ⟨g, h1, h2, h3⟩ := h; exact ⟨g, h1, Nat.lt_of_lt_of_le h2 hr.1.size, (hr.1.block g h2).trans h3⟩
      · intro k hk q hq hqt v w w' h hr
        by_cases hs : k = 17
        · have hr0 := hr.1 hs
          rcases hs with rfl
          · exact absurd (hq.trans hqt) (ne_true_of_eq_false (by kernel_rfl))
        · have hr := hr.2 hs
          exact own_kept h hr.1
      · intro k hk q hq hqt v w w' h hr
        by_cases hs : k = 17
        · have hr0 := hr.1 hs
          rcases hs with rfl
          · exact (fun (h : _) (hr : _) => by exact h) h hr0
        · have hr := hr.2 hs
          exact h
      · intro k hk q hq hqt v w w' h hr
        by_cases hs : k = 17
        · have hr0 := hr.1 hs
          rcases hs with rfl
          · exact (fun (h : _) (hr : _) => by exact h) h hr0
        · have hr := hr.2 hs
          exact h
      · intro k hk q hq hqt v w w' h hr
        by_cases hs : k = 17
        · have hr0 := hr.1 hs
          rcases hs with rfl
          · exact (fun (h : _) (hr : _) => by exact h) h hr0
        · have hr := hr.2 hs
          exact h
      · intro k hk q hq hqt v w w' h hr
        by_cases hs : k = 17
        · have hr0 := hr.1 hs
          rcases hs with rfl
          · exact (fun (h : _) (hr : _) => by exact h) h hr0
        · have hr := hr.2 hs
          exact h
      · intro k hk q hq hqt v w w' h hr
        by_cases hs : k = 17
        · have hr0 := hr.1 hs
          rcases hs with rfl
          · exact (fun (h : _) (hr : _) => by exact h) h hr0
        · have hr := hr.2 hs
          exact h
    · intro i hi
      rcases (by omega : i = 0 ∨ i = 1 ∨ i = 2 ∨ i = 3 ∨ i = 4 ∨ i = 5 ∨ i = 6 ∨ i = 7 ∨ i = 8 ∨ i = 9 ∨ i = 10 ∨ i = 11 ∨ i = 12 ∨ i = 13 ∨ i = 14 ∨ i = 15 ∨ i = 16 ∨ i = 17 ∨ i = 18 ∨ i = 19 ∨ i = 20 ∨ i = 21 ∨ i = 22) with rfl | rfl | rfl | rfl | rfl | rfl | rfl | rfl | rfl | rfl | rfl | rfl | rfl | rfl | rfl | rfl | rfl | rfl | rfl | rfl | rfl | rfl | rfl
      · -- 0: Op.move (Operand.tmp 0)
        intro l hl vs W hS hR hp
        obtain rfl : l = [] := hl.symm.trans (by kernel_rfl)
        clear hp hl
        refine opgoal (_) (some 33) rfl rfl fun K hK => ?_
        refine Runs.mk ?_
        simp only [putAll]
        go_simp
        refine hK _ _ ?_ hS ⟨fun h => absurd h (by decide), fun _ => ((fun w => ⟨Below.refl _ _, Below.refl _ _⟩) W)⟩ _ rfl rfl
        first | rfl | go_simp | simp
      · -- 1: Op.call { callee := Callee.value (Operand.func 15), args := #[Operand.tmp 33], argTypes := #[22] }
        intro l hl vs W hS hR hp
        obtain rfl : l = [(0, 33)] := hl.symm.trans (by kernel_rfl)
        have p0 : vs 0 = _ := hp 0 (by decide) (by decide)
        clear hp hl
        refine opgoal (_) (some 34) rfl rfl fun K hK => ?_
        refine Runs.mk ?_
        simp only [putAll]
        go_simp
        refine (sum_any _ _ _ sa _ (Hra.out.below (below_of_drew hR)) Hsa.out).mono ?_
        rintro e w' ⟨rfl, hbx⟩
        go_simp
        exact hK _ _ rfl (Nat.le_trans hS hbx.size) ⟨fun h => absurd h (by decide), fun _ => ⟨hbx, hbx.mono hS⟩⟩ _ rfl rfl
      · -- 2: Op.move (Operand.tmp 1)
        intro l hl vs W hS hR hp
        obtain rfl : l = [] := hl.symm.trans (by kernel_rfl)
        clear hp hl
        refine opgoal (_) (some 35) rfl rfl fun K hK => ?_
        refine Runs.mk ?_
        simp only [putAll]
        go_simp
        refine hK _ _ ?_ hS ⟨fun h => absurd h (by decide), fun _ => ((fun w => ⟨Below.refl _ _, Below.refl _ _⟩) W)⟩ _ rfl rfl
        first | rfl | go_simp | simp
      · -- 3: Op.call { callee := Callee.value (Operand.func 18), args := #[Operand.tmp 34, Operand.tmp 35], argTypes := #[25, 22] }
        intro l hl vs W hS hR hp
        obtain rfl : l = [(0, 33), (1, 34), (2, 35)] := hl.symm.trans (by kernel_rfl)
        have p1 : vs 1 = _ := hp 1 (by decide) (by decide)
        have p2 : vs 2 = _ := hp 2 (by decide) (by decide)
        clear hp hl
        refine opgoal (_) (some 36) rfl rfl fun K hK => ?_
        refine Runs.mk ?_
        simp only [putAll]
        go_simp
        refine (more_any _ _ _ _ sb_ _ (more_lt _ _ (by decide) (sbs_lt _)) (Hrb.out.below (below_of_drew hR)) Hsb.out).mono ?_
        rintro e w' ⟨rfl, hbx⟩
        go_simp
        exact hK _ _ rfl (Nat.le_trans hS hbx.size) ⟨fun h => absurd h (by decide), fun _ => ⟨hbx, hbx.mono hS⟩⟩ _ rfl rfl
      · -- 4: Op.move (Operand.tmp 8)
        intro l hl vs W hS hR hp
        obtain rfl : l = [] := hl.symm.trans (by kernel_rfl)
        clear hp hl
        refine opgoal (_) (some 37) rfl rfl fun K hK => ?_
        refine Runs.mk ?_
        simp only [putAll]
        go_simp
        refine hK _ _ ?_ hS ⟨fun h => absurd h (by decide), fun _ => ((fun w => ⟨Below.refl _ _, Below.refl _ _⟩) W)⟩ _ rfl rfl
        first | rfl | go_simp | simp
      · -- 5: Op.binOp BinOp.eql 25 (Operand.tmp 36) (Operand.tmp 37) 25
        intro l hl vs W hS hR hp
        obtain rfl : l = [(0, 33), (1, 34), (2, 35), (3, 36), (4, 37)] := hl.symm.trans (by kernel_rfl)
        have p3 : vs 3 = _ := hp 3 (by decide) (by decide)
        have p4 : vs 4 = _ := hp 4 (by decide) (by decide)
        clear hp hl
        refine opgoal (_) (some 38) rfl rfl fun K hK => ?_
        have hq := h12.out
        refine Runs.mk ?_
        simp only [putAll]
        go_simp
        refine hK _ _ ?_ hS ⟨fun h => absurd h (by decide), fun _ => ((fun w => ⟨Below.refl _ _, Below.refl _ _⟩) W)⟩ _ rfl rfl
        first | rfl | go_simp | simp
      · -- 6: Op.move (Operand.tmp 38)
        intro l hl vs W hS hR hp
        obtain rfl : l = [(0, 33), (1, 34), (2, 35), (3, 36), (4, 37), (5, 38)] := hl.symm.trans (by kernel_rfl)
        have p5 : vs 5 = _ := hp 5 (by decide) (by decide)
        clear hp hl
        refine opgoal (_) (some 39) rfl rfl fun K hK => ?_
        refine Runs.mk ?_
        simp only [putAll]
        go_simp
        refine hK _ _ ?_ hS ⟨fun h => absurd h (by decide), fun _ => ((fun w => ⟨Below.refl _ _, Below.refl _ _⟩) W)⟩ _ rfl rfl
        first | rfl | go_simp | simp
      · -- 7: Op.buildSlice 22 0 #[]  [(6, 'true')]
        intro l hl vs W hS hR hp
        obtain rfl : l = [(0, 33), (1, 34), (2, 35), (3, 36), (4, 37), (5, 38), (6, 39)] := hl.symm.trans (by kernel_rfl)
        have p6 : vs 6 = _ := hp 6 (by decide) (by decide)
        clear hp hl
        refine opgoal (_) (some 40) rfl rfl fun K hK => ?_
        refine Runs.mk ?_
        simp only [putAll]
        go_simp
        refine hK _ _ ⟨_, rfl, ?_⟩ (by simp; omega) ⟨fun h => absurd h (by decide), fun _ => ⟨(Below.refl _ _).alloc (Nat.le_refl _) _, (Below.refl _ _).alloc hS _⟩⟩ _ rfl rfl
        exact World.ownsRow_lit (size := 1) W #[] 0 hS (by decide) rfl
      · -- 8: Op.move (Operand.tmp 0)  [(6, 'true')]
        intro l hl vs W hS hR hp
        obtain rfl : l = [(0, 33), (1, 34), (2, 35), (3, 36), (4, 37), (5, 38), (6, 39)] := hl.symm.trans (by kernel_rfl)
        have p6 : vs 6 = _ := hp 6 (by decide) (by decide)
        clear hp hl
        refine opgoal (_) (some 41) rfl rfl fun K hK => ?_
        refine Runs.mk ?_
        simp only [putAll]
        go_simp
        refine hK _ _ ?_ hS ⟨fun h => absurd h (by decide), fun _ => ((fun w => ⟨Below.refl _ _, Below.refl _ _⟩) W)⟩ _ rfl rfl
        first | rfl | go_simp | simp
      · -- 9: Op.call { callee := Callee.builtin Builtin.append, args := #[Operand.tmp 40, Operand.tmp 41], argTypes := #[22, 22] }  [(6, 'true')]
        intro l hl vs W hS hR hp
        obtain rfl : l = [(0, 33), (1, 34), (2, 35), (3, 36), (4, 37), (5, 38), (6, 39), (7, 40), (8, 41)] := hl.symm.trans (by kernel_rfl)
        have p6 : vs 6 = _ := hp 6 (by decide) (by decide)
        have p7 : (fun v w => ∃ A0, v = .slice A0 0 0 ∧ w.ownsRow wk.heap.size 9 1 v 0 []) (vs 7) W := hp 7 (by decide) (by decide)
        dsimp only at p7
        have p8 : vs 8 = _ := hp 8 (by decide) (by decide)
        clear hp hl
        obtain p6 := p6
        refine opgoal ({ dst := some 42, op := Op.call { callee := Callee.builtin Builtin.append, args := #[Operand.tmp 40, Operand.tmp 41], argTypes := #[22, 22] }, type := 22, pos := "law.go:76", after := #[{ on := 7, ground := Ground.data }, { on := 8, ground := Ground.data }, { on := 6, ground := Ground.chain }, { on := 6, ground := Ground.guard }], guard := some (6, true) }) (some 42) rfl rfl fun K hK => ?_
        obtain ⟨A0, q7, o7⟩ := p7
        rw [q7] at o7
        refine runs_append_fresh W (wanted_some (b := true) rfl (yielded_of (t := 39) rfl (by simp [putAll, Act.put, p6]))) _ _ wk.heap.size 22 9 (.string ⟨#[]⟩) 1 16 rfl (by kernel_rfl) (by kernel_rfl) rfl (by decide) (by decide) A0 (by simp [putAll, Act.put, Act.eval, q7]) o7 A na ca (by simp [putAll, Act.put, Act.eval, p8]) HAn.out (sa.map Value.string) hla3.out (Rd.lies (Hra.out.below (below_of_drew hR))) oa (by omega) hS ?_
        intro v' w' h1 h2
        exact hK _ _ h1 (Nat.le_trans hS h2.size) ⟨fun h => absurd h (by decide), fun _ => ⟨h2, h2.mono hS⟩⟩ _ put_dfs (put_slot (by simp))
      · -- 10: Op.move (Operand.tmp 7)  [(6, 'true')]
        intro l hl vs W hS hR hp
        obtain rfl : l = [(0, 33), (1, 34), (2, 35), (3, 36), (4, 37), (5, 38), (6, 39)] := hl.symm.trans (by kernel_rfl)
        have p6 : vs 6 = _ := hp 6 (by decide) (by decide)
        clear hp hl
        refine opgoal (_) (some 43) rfl rfl fun K hK => ?_
        refine Runs.mk ?_
        simp only [putAll]
        go_simp
        refine hK _ _ ?_ hS ⟨fun h => absurd h (by decide), fun _ => ((fun w => ⟨Below.refl _ _, Below.refl _ _⟩) W)⟩ _ rfl rfl
        first | rfl | go_simp | simp
      · -- 11: Op.move (Operand.tmp 2)  [(6, 'true')]
        intro l hl vs W hS hR hp
        obtain rfl : l = [(0, 33), (1, 34), (2, 35), (3, 36), (4, 37), (5, 38), (6, 39)] := hl.symm.trans (by kernel_rfl)
        have p6 : vs 6 = _ := hp 6 (by decide) (by decide)
        clear hp hl
        refine opgoal (_) (some 44) rfl rfl fun K hK => ?_
        refine Runs.mk ?_
        simp only [putAll]
        go_simp
        refine hK _ _ ?_ hS ⟨fun h => absurd h (by decide), fun _ => ((fun w => ⟨Below.refl _ _, Below.refl _ _⟩) W)⟩ _ rfl rfl
        first | rfl | go_simp | simp
      · -- 12: Op.slice 9 (Operand.tmp 43) none (some (Operand.tmp 44)) none  [(6, 'true')]
        intro l hl vs W hS hR hp
        obtain rfl : l = [(0, 33), (1, 34), (2, 35), (3, 36), (4, 37), (5, 38), (6, 39), (10, 43), (11, 44)] := hl.symm.trans (by kernel_rfl)
        have p6 : vs 6 = _ := hp 6 (by decide) (by decide)
        have p10 : vs 10 = _ := hp 10 (by decide) (by decide)
        have p11 : vs 11 = _ := hp 11 (by decide) (by decide)
        clear hp hl
        refine opgoal (_) (some 45) rfl rfl fun K hK => ?_
        have hk0 := HK.out
        refine Runs.mk ?_
        simp only [putAll]
        go_simp
        refine hK _ _ ?_ hS ⟨fun h => absurd h (by decide), fun _ => ((fun w => ⟨Below.refl _ _, Below.refl _ _⟩) W)⟩ _ rfl rfl
        first | rfl | go_simp | simp
      · -- 13: Op.move (Operand.tmp 7)  [(6, 'true')]
        intro l hl vs W hS hR hp
        obtain rfl : l = [(0, 33), (1, 34), (2, 35), (3, 36), (4, 37), (5, 38), (6, 39)] := hl.symm.trans (by kernel_rfl)
        have p6 : vs 6 = _ := hp 6 (by decide) (by decide)
        clear hp hl
        refine opgoal (_) (some 46) rfl rfl fun K hK => ?_
        refine Runs.mk ?_
        simp only [putAll]
        go_simp
        refine hK _ _ ?_ hS ⟨fun h => absurd h (by decide), fun _ => ((fun w => ⟨Below.refl _ _, Below.refl _ _⟩) W)⟩ _ rfl rfl
        first | rfl | go_simp | simp
      · -- 14: Op.move (Operand.tmp 2)  [(6, 'true')]
        intro l hl vs W hS hR hp
        obtain rfl : l = [(0, 33), (1, 34), (2, 35), (3, 36), (4, 37), (5, 38), (6, 39)] := hl.symm.trans (by kernel_rfl)
        have p6 : vs 6 = _ := hp 6 (by decide) (by decide)
        clear hp hl
        refine opgoal (_) (some 47) rfl rfl fun K hK => ?_
        refine Runs.mk ?_
        simp only [putAll]
        go_simp
        refine hK _ _ ?_ hS ⟨fun h => absurd h (by decide), fun _ => ((fun w => ⟨Below.refl _ _, Below.refl _ _⟩) W)⟩ _ rfl rfl
        first | rfl | go_simp | simp
      · -- 15: Op.slice 9 (Operand.tmp 46) (some (Operand.tmp 47)) none none  [(6, 'true')]
        intro l hl vs W hS hR hp
        obtain rfl : l = [(0, 33), (1, 34), (2, 35), (3, 36), (4, 37), (5, 38), (6, 39), (13, 46), (14, 47)] := hl.symm.trans (by kernel_rfl)
        have p6 : vs 6 = _ := hp 6 (by decide) (by decide)
        have p13 : vs 13 = _ := hp 13 (by decide) (by decide)
        have p14 : vs 14 = _ := hp 14 (by decide) (by decide)
        clear hp hl
        refine opgoal (_) (some 48) rfl rfl fun K hK => ?_
        have hk0 := HK.out
        refine Runs.mk ?_
        simp only [putAll]
        go_simp
        refine hK _ _ ?_ hS ⟨fun h => absurd h (by decide), fun _ => ((fun w => ⟨Below.refl _ _, Below.refl _ _⟩) W)⟩ _ rfl rfl
        first | rfl | go_simp | simp
      · -- 16: Op.buildSlice 22 2 #[(0, Operand.tmp 45), (1, Operand.tmp 48)]  [(6, 'true')]
        intro l hl vs W hS hR hp
        obtain rfl : l = [(0, 33), (1, 34), (2, 35), (3, 36), (4, 37), (5, 38), (6, 39), (10, 43), (11, 44), (12, 45), (13, 46), (14, 47), (15, 48)] := hl.symm.trans (by kernel_rfl)
        have p6 : vs 6 = _ := hp 6 (by decide) (by decide)
        have p12 : vs 12 = _ := hp 12 (by decide) (by decide)
        have p15 : vs 15 = _ := hp 15 (by decide) (by decide)
        clear hp hl
        refine opgoal (_) (some 49) rfl rfl fun K hK => ?_
        refine Runs.mk ?_
        simp only [putAll]
        go_simp
        refine hK _ _ ⟨W.heap.size, rfl, by simp, heap_alloc_new _ _⟩ (by simp; omega) ⟨fun h => absurd h (by decide), fun _ => ⟨(Below.refl _ _).alloc (Nat.le_refl _) _, (Below.refl _ _).alloc hS _⟩⟩ _ rfl rfl
      · -- 17: Op.call { callee := Callee.builtin Builtin.append, args := #[Operand.tmp 42, Operand.tmp 49], argTypes := #[22, 22] }  [(6, 'true')]
        intro l hl vs W hS hR hp
        obtain rfl : l = [(0, 33), (1, 34), (2, 35), (3, 36), (4, 37), (5, 38), (6, 39), (7, 40), (8, 41), (9, 42), (10, 43), (11, 44), (12, 45), (13, 46), (14, 47), (15, 48), (16, 49)] := hl.symm.trans (by kernel_rfl)
        have p6 : vs 6 = _ := hp 6 (by decide) (by decide)
        have p9 : (fun v w => w.ownsRow wk.heap.size 9 1 v na (sa.map Value.string)) (vs 9) W := hp 9 (by decide) (by decide)
        dsimp only at p9
        have p16 : (fun v w => ∃ g, v = .slice (some ⟨g, 0, none⟩) 2 2 ∧ g < w.heap.size ∧ w.heap[g]? = some (.cells #[.string (cs.extract 0 k), .string (cs.extract k cs.size)] 9 (0, 0))) (vs 16) W := hp 16 (by decide) (by decide)
        dsimp only at p16
        clear hp hl
        obtain p6 := p6
        refine opgoal ({ dst := some 50, op := Op.call { callee := Callee.builtin Builtin.append, args := #[Operand.tmp 42, Operand.tmp 49], argTypes := #[22, 22] }, type := 22, pos := "law.go:76", after := #[{ on := 9, ground := Ground.data }, { on := 16, ground := Ground.data }, { on := 9, ground := Ground.chain }, { on := 6, ground := Ground.guard }], guard := some (6, true) }) (some 50) rfl rfl fun K hK => ?_
        obtain ⟨g, q16, l16, b16⟩ := p16
        refine runs_append_src W (wanted_some (b := true) rfl (yielded_of (t := 39) rfl (by simp [putAll, Act.put, p6]))) _ _ wk.heap.size 22 9 (.string ⟨#[]⟩) 1 16 rfl (by kernel_rfl) (by kernel_rfl) rfl (by decide) (by decide) (vs 9) na _ (by simp [putAll, Act.put, Act.eval]) p9 (some ⟨g, 0, none⟩) 2 2 (by simp [putAll, Act.put, Act.eval, q16]) (fun h => by cases h) [.string (cs.extract 0 k), .string (cs.extract k cs.size)] rfl (lies_block b16) (by simp [Value.oneCell']) (by omega) hS ?_
        intro v' w' h1 h2 h3
        exact hK _ _ h1 (Nat.le_trans hS h2.size) ⟨fun _ => below_of_grown h2 hS (fun k hk => (own_lt p9 k hk).1), fun h => absurd rfl h⟩ _ put_dfs (put_slot (by simp))
      · -- 18: Op.call { callee := Callee.value (Operand.func 15), args := #[Operand.tmp 50], argTypes := #[22] }  [(6, 'true')]
        intro l hl vs W hS hR hp
        obtain rfl : l = [(0, 33), (1, 34), (2, 35), (3, 36), (4, 37), (5, 38), (6, 39), (7, 40), (8, 41), (9, 42), (10, 43), (11, 44), (12, 45), (13, 46), (14, 47), (15, 48), (16, 49), (17, 50)] := hl.symm.trans (by kernel_rfl)
        have p6 : vs 6 = _ := hp 6 (by decide) (by decide)
        have p17 : (fun v w => w.ownsRow wk.heap.size 9 1 v (na + 2) (sa.map Value.string ++ [.string (cs.extract 0 k), .string (cs.extract k cs.size)])) (vs 17) W := hp 17 (by decide) (by decide)
        dsimp only at p17
        clear hp hl
        refine opgoal (_) (some 51) rfl rfl fun K hK => ?_
        obtain ⟨A4, c4, q17, r17, _⟩ := own_rd p17
        refine Runs.mk ?_
        simp only [putAll]
        go_simp
        refine (sum_any _ _ _ (sa ++ [cs.extract 0 k, cs.extract k cs.size]) _ (by simpa using r17) hsj).mono ?_
        rintro e w' ⟨rfl, hbx⟩
        rw [hcut]
        go_simp
        exact hK _ _ rfl (Nat.le_trans hS hbx.size) ⟨fun h => absurd h (by decide), fun _ => ⟨hbx, hbx.mono hS⟩⟩ _ rfl rfl
      · -- 19: Op.move (Operand.tmp 8)  [(6, 'true')]
        intro l hl vs W hS hR hp
        obtain rfl : l = [(0, 33), (1, 34), (2, 35), (3, 36), (4, 37), (5, 38), (6, 39)] := hl.symm.trans (by kernel_rfl)
        have p6 : vs 6 = _ := hp 6 (by decide) (by decide)
        clear hp hl
        refine opgoal (_) (some 52) rfl rfl fun K hK => ?_
        refine Runs.mk ?_
        simp only [putAll]
        go_simp
        refine hK _ _ ?_ hS ⟨fun h => absurd h (by decide), fun _ => ((fun w => ⟨Below.refl _ _, Below.refl _ _⟩) W)⟩ _ rfl rfl
        first | rfl | go_simp | simp
      · -- 20: Op.binOp BinOp.eql 25 (Operand.tmp 51) (Operand.tmp 52) 25  [(6, 'true')]
        intro l hl vs W hS hR hp
        obtain rfl : l = [(0, 33), (1, 34), (2, 35), (3, 36), (4, 37), (5, 38), (6, 39), (7, 40), (8, 41), (9, 42), (10, 43), (11, 44), (12, 45), (13, 46), (14, 47), (15, 48), (16, 49), (17, 50), (18, 51), (19, 52)] := hl.symm.trans (by kernel_rfl)
        have p6 : vs 6 = _ := hp 6 (by decide) (by decide)
        have p18 : vs 18 = _ := hp 18 (by decide) (by decide)
        have p19 : vs 19 = _ := hp 19 (by decide) (by decide)
        clear hp hl
        refine opgoal (_) (some 53) rfl rfl fun K hK => ?_
        refine Runs.mk ?_
        simp only [putAll]
        go_simp
        refine hK _ _ ?_ hS ⟨fun h => absurd h (by decide), fun _ => ((fun w => ⟨Below.refl _ _, Below.refl _ _⟩) W)⟩ _ rfl rfl
        first | rfl | go_simp | simp
      · -- 21: Op.pick (Operand.tmp 39) (Operand.tmp 53) (Operand.const (Value.bool false))
        intro l hl vs W hS hR hp
        obtain rfl : l = [(0, 33), (1, 34), (2, 35), (3, 36), (4, 37), (5, 38), (6, 39), (7, 40), (8, 41), (9, 42), (10, 43), (11, 44), (12, 45), (13, 46), (14, 47), (15, 48), (16, 49), (17, 50), (18, 51), (19, 52), (20, 53)] := hl.symm.trans (by kernel_rfl)
        have p6 : vs 6 = _ := hp 6 (by decide) (by decide)
        have p20 : vs 20 = _ := hp 20 (by decide) (by decide)
        clear hp hl
        refine opgoal (_) (some 54) rfl rfl fun K hK => ?_
        refine Runs.mk ?_
        simp only [putAll]
        go_simp
        refine hK _ _ ?_ hS ⟨fun h => absurd h (by decide), fun _ => ((fun w => ⟨Below.refl _ _, Below.refl _ _⟩) W)⟩ _ rfl rfl
        first | rfl | go_simp | simp
      · -- 22: Op.assign (Operand.tmp 54)
        intro l hl vs W hS hR hp
        obtain rfl : l = [(0, 33), (1, 34), (2, 35), (3, 36), (4, 37), (5, 38), (6, 39), (7, 40), (8, 41), (9, 42), (10, 43), (11, 44), (12, 45), (13, 46), (14, 47), (15, 48), (16, 49), (17, 50), (18, 51), (19, 52), (20, 53), (21, 54)] := hl.symm.trans (by kernel_rfl)
        have p21 : vs 21 = _ := hp 21 (by decide) (by decide)
        clear hp hl
        refine opgoal (_) (some 6) rfl rfl fun K hK => ?_
        refine Runs.mk ?_
        simp only [putAll]
        go_simp
        refine hK _ _ ?_ hS ⟨fun h => absurd h (by decide), fun _ => ((fun w => ⟨Below.refl _ _, Below.refl _ _⟩) W)⟩ _ rfl rfl
        first | rfl | go_simp | simp
    · intro l hl vs W hS hR hp
      obtain rfl : l = [(0, 33), (1, 34), (2, 35), (3, 36), (4, 37), (5, 38), (6, 39), (7, 40), (8, 41), (9, 42), (10, 43), (11, 44), (12, 45), (13, 46), (14, 47), (15, 48), (16, 49), (17, 50), (18, 51), (19, 52), (20, 53), (21, 54), (22, 6)] := hl.symm.trans (by kernel_rfl)
      have p0 : vs 0 = _ := hp 0 (by decide) (by decide)
      have p1 : vs 1 = _ := hp 1 (by decide) (by decide)
      have p2 : vs 2 = _ := hp 2 (by decide) (by decide)
      have p3 : vs 3 = _ := hp 3 (by decide) (by decide)
      have p4 : vs 4 = _ := hp 4 (by decide) (by decide)
      have p5 : vs 5 = _ := hp 5 (by decide) (by decide)
      have p6 : vs 6 = _ := hp 6 (by decide) (by decide)
      have p8 : vs 8 = _ := hp 8 (by decide) (by decide)
      have p10 : vs 10 = _ := hp 10 (by decide) (by decide)
      have p11 : vs 11 = _ := hp 11 (by decide) (by decide)
      have p12 : vs 12 = _ := hp 12 (by decide) (by decide)
      have p13 : vs 13 = _ := hp 13 (by decide) (by decide)
      have p14 : vs 14 = _ := hp 14 (by decide) (by decide)
      have p15 : vs 15 = _ := hp 15 (by decide) (by decide)
      have p18 : vs 18 = _ := hp 18 (by decide) (by decide)
      have p19 : vs 19 = _ := hp 19 (by decide) (by decide)
      have p20 : vs 20 = _ := hp 20 (by decide) (by decide)
      have p21 : vs 21 = _ := hp 21 (by decide) (by decide)
      have p22 : vs 22 = _ := hp 22 (by decide) (by decide)
      clear hp hl
      simp only [putAll]
      go_wp2
      go_ret
      exact ⟨rfl, hbK.trans ((below_of_drew hR).mono hbK.size)⟩
  · have HK := Lib.hid hk0
    clear hk0 hk
    have hat2 : at_ < 0 ∨ (0 ≤ at_ ∧ (cs.size : Int) < at_) := by omega
    clear hat
    rcases hat2 with hat | ⟨hat, hat2⟩
    all_goals
      have hla2 := hla.out
      have hlb2 := hlb.out
      have lsa := Rd.lies (hra.below hb1)
      have lsb := Rd.lies (hrb.below hb1)
      have oa : ∀ u ∈ sa.map Value.string, u.oneCell' = true := by simp [Value.oneCell']
      have ob : ∀ u ∈ sb_.map Value.string, u.oneCell' = true := by simp [Value.oneCell']
      have la1 : (sa.map Value.string).length = na * 1 := by simpa using hla2
      have lb1 : (sb_.map Value.string).length = nb * 1 := by simpa using hlb2
      have hla3 := Lib.hid la1
      have hlb3 := Lib.hid lb1
      clear la1 lb1 hla2 hlb2
      go_wp2_with (first | (at_builtin; refine wpList_append_src _ rfl (.tmp 27) (.tmp 28) w1.heap.size 22 9 (.string ⟨#[]⟩) 1 16 rfl (by kernel_rfl) (by kernel_rfl) rfl (by decide) (by decide) _ 0 [] rfl (World.ownsRow_lit (size := 1) w1 #[] 0 (Nat.le_refl _) (by decide) rfl) A na ca rfl HAn.out (sa.map Value.string) hla3.out (lsa.below ((Below.refl _ _).alloc (Nat.le_refl _) _)) oa (by omega) (by simp) ?_; intro v1 w2 ho1 hg1 hv1) | (at_builtin; go_loud (refine wpList_append_src _ rfl (.tmp 29) (.tmp 30) w1.heap.size 22 9 (.string ⟨#[]⟩) 1 16 rfl (by kernel_rfl) (by kernel_rfl) rfl (by decide) (by decide) v1 (0 + na) _ rfl ho1 Ab nb cb rfl HBn.out (sb_.map Value.string) hlb3.out (lsb.below (below_first hg1)) ob (by omega) (below_first hg1).size ?_); intro v2 w3 ho2 hg2 hv2))
      obtain ⟨A3, c3, rfl, hr3, _⟩ := own_rd ho2
      refine (sum_any _ _ _ (sa ++ sb_) _ (by simpa using hr3) (by simpa using fun s hs => hs.elim (Hsa.out s) (Hsb.out s))).mono ?_
      rintro e wk ⟨rfl, hb4⟩
      have hbK : Below w.heap.size w wk := below2 (hb1.trans (((below_first hg1).trans (below_next ho1 (below_first hg1).size hg2)).mono hb1.size)) hb4
      clear hr3 ho2 hg2 hv2 ho1 hg1 hv1 hb4 lsa lsb
      have Hra := Lib.hid (hra.below hbK)
      have Hrb := Lib.hid (hrb.below hbK)
      have Hcut : Hid (sbs (sa ++ [cs.extract 0 k, cs.extract k cs.size]) = sbs (sa ++ sb_)) := Lib.hid (cut_join sa sb_ cs k hcs.out hkc)
      have hcut := Hcut.out
      have hsj : ∀ s ∈ sa ++ [cs.extract 0 k, cs.extract k cs.size], s.size ≤ 140737488351232 := by
        intro s hs
        rcases List.mem_append.1 hs with hs | hs
        · exact Hsa.out s hs
        · have h3 : (cs.extract 0 k).size ≤ cs.size := by simp; omega
          have h4 : (cs.extract k cs.size).size ≤ cs.size := by simp
          simp only [List.mem_cons, List.not_mem_nil, or_false] at hs
          rcases hs with rfl | rfl <;> omega
      go_wp2_with fail
      refine wp_region_by (fun W => wk.heap.size ≤ W.heap.size) (fun u v => Below wk.heap.size u v) (fun k u v => ((k = 17) → (fun u v => Below wk.heap.size u v) u v) ∧ (¬ (k = 17) → (fun u v => Below u.heap.size u v ∧ Below wk.heap.size u v) u v)) (fun a i => match i with
          | 0 => (fun v _ => v = a.tmps.getD 0 undef)
          | 1 => (fun v _ => v = .int .u32 ((more 0 (sbs sa) : Nat) : Int))
          | 2 => (fun v _ => v = a.tmps.getD 1 undef)
          | 3 => (fun v _ => v = .int .u32 ((more (more 0 (sbs sa)) (sbs sb_) : Nat) : Int))
          | 4 => (fun v _ => v = a.tmps.getD 8 undef)
          | 5 => (fun v _ => v = .bool true)
          | 6 => (fun v _ => v = .bool true)
          | 7 => (fun v w => ∃ A0, v = .slice A0 0 0 ∧ w.ownsRow wk.heap.size 9 1 v 0 [])
          | 8 => (fun v _ => v = a.tmps.getD 0 undef)
          | 9 => (fun v w => w.ownsRow wk.heap.size 9 1 v na (sa.map Value.string))
          | 10 => (fun v _ => v = a.tmps.getD 7 undef)
          | 11 => (fun v _ => v = a.tmps.getD 2 undef)
          | 12 => (fun v _ => v = .string (cs.extract 0 k))
          | 13 => (fun v _ => v = a.tmps.getD 7 undef)
          | 14 => (fun v _ => v = a.tmps.getD 2 undef)
          | 15 => (fun v _ => v = .string (cs.extract k cs.size))
          | 16 => (fun v w => ∃ g, v = .slice (some ⟨g, 0, none⟩) 2 2 ∧ g < w.heap.size ∧ w.heap[g]? = some (.cells #[.string (cs.extract 0 k), .string (cs.extract k cs.size)] 9 (0, 0)))
          | 17 => (fun v w => w.ownsRow wk.heap.size 9 1 v (na + 2) (sa.map Value.string ++ [.string (cs.extract 0 k), .string (cs.extract k cs.size)]))
          | 18 => (fun v _ => v = .int .u32 ((more 0 (sbs (sa ++ sb_)) : Nat) : Int))
          | 19 => (fun v _ => v = a.tmps.getD 8 undef)
          | 20 => (fun v _ => v = .bool true)
          | 21 => (fun v _ => v = .bool true)
          | 22 => (fun v _ => v = .bool true)
          | _ => (fun _ _ => True)) #[0, 1, 0, 7, 0, 31, 63, 127, 127, 511, 127, 127, 3199, 127, 127, 24703, 64639, 131071, 262143, 127, 1048575, 2097151, 4194303] #[0, 1, 0, 6, 0, 24, 32, 64, 64, 448, 64, 64, 3136, 64, 64, 24640, 36928, 66112, 131136, 64, 786496, 1048640, 2097152] 8191359 (by kernel_rfl) 23 rfl (fun m hm => by subst hm; kernel_rfl) (by kernel_rfl) (fun w => Below.refl _ _) (fun u v w h1 h2 => Below.trans h1 h2) ?_ ?_ (Nat.le_refl _) ?_ ?_
      · intro k u v hk hr
        by_cases hs : k = 17
        · have h := hr.1 hs; exact h
        · have h := hr.2 hs; exact h.2
      · intro i hi
        rcases (by omega : i = 0 ∨ i = 1 ∨ i = 2 ∨ i = 3 ∨ i = 4 ∨ i = 5 ∨ i = 6 ∨ i = 7 ∨ i = 8 ∨ i = 9 ∨ i = 10 ∨ i = 11 ∨ i = 12 ∨ i = 13 ∨ i = 14 ∨ i = 15 ∨ i = 16 ∨ i = 17 ∨ i = 18 ∨ i = 19 ∨ i = 20 ∨ i = 21 ∨ i = 22) with rfl | rfl | rfl | rfl | rfl | rfl | rfl | rfl | rfl | rfl | rfl | rfl | rfl | rfl | rfl | rfl | rfl | rfl | rfl | rfl | rfl | rfl | rfl
        · intro k hk q hq hqt v w w' h hr
          by_cases hs : k = 17
          · have hr0 := hr.1 hs
            rcases hs with rfl
            · exact (fun (h : _) (hr : _) => by exact h) h hr0
          · have hr := hr.2 hs
            exact h
        · intro k hk q hq hqt v w w' h hr
          by_cases hs : k = 17
          · have hr0 := hr.1 hs
            rcases hs with rfl
            · exact (fun (h : _) (hr : _) => by exact h) h hr0
          · have hr := hr.2 hs
            exact h
        · intro k hk q hq hqt v w w' h hr
          by_cases hs : k = 17
          · have hr0 := hr.1 hs
            rcases hs with rfl
            · exact (fun (h : _) (hr : _) => by exact h) h hr0
          · have hr := hr.2 hs
            exact h
        · intro k hk q hq hqt v w w' h hr
          by_cases hs : k = 17
          · have hr0 := hr.1 hs
            rcases hs with rfl
            · exact (fun (h : _) (hr : _) => by exact h) h hr0
          · have hr := hr.2 hs
            exact h
        · intro k hk q hq hqt v w w' h hr
          by_cases hs : k = 17
          · have hr0 := hr.1 hs
            rcases hs with rfl
            · exact (fun (h : _) (hr : _) => by exact h) h hr0
          · have hr := hr.2 hs
            exact h
        · intro k hk q hq hqt v w w' h hr
          by_cases hs : k = 17
          · have hr0 := hr.1 hs
            rcases hs with rfl
            · exact (fun (h : _) (hr : _) => by exact h) h hr0
          · have hr := hr.2 hs
            exact h
        · intro k hk q hq hqt v w w' h hr
          by_cases hs : k = 17
          · have hr0 := hr.1 hs
            rcases hs with rfl
            · exact (fun (h : _) (hr : _) => by exact h) h hr0
          · have hr := hr.2 hs
            exact h
        · intro k hk q hq hqt v w w' h hr
          by_cases hs : k = 17
          · have hr0 := hr.1 hs
            rcases hs with rfl
            · exact absurd (hq.trans hqt) (ne_true_of_eq_false (by kernel_rfl))
          · have hr := hr.2 hs
            obtain ⟨A0, h1, h2⟩ := h; exact ⟨A0, h1, own_kept h2 hr.1⟩
        · intro k hk q hq hqt v w w' h hr
          by_cases hs : k = 17
          · have hr0 := hr.1 hs
            rcases hs with rfl
            · exact (fun (h : _) (hr : _) => by exact h) h hr0
          · have hr := hr.2 hs
            exact h
        · intro k hk q hq hqt v w w' h hr
          by_cases hs : k = 17
          · have hr0 := hr.1 hs
            rcases hs with rfl
            · exact absurd (hq.trans hqt) (ne_true_of_eq_false (by kernel_rfl))
          · have hr := hr.2 hs
            exact own_kept h hr.1
        · intro k hk q hq hqt v w w' h hr
          by_cases hs : k = 17
          · have hr0 := hr.1 hs
            rcases hs with rfl
            · exact (fun (h : _) (hr : _) => by exact h) h hr0
          · have hr := hr.2 hs
            exact h
        · intro k hk q hq hqt v w w' h hr
          by_cases hs : k = 17
          · have hr0 := hr.1 hs
            rcases hs with rfl
            · exact (fun (h : _) (hr : _) => by exact h) h hr0
          · have hr := hr.2 hs
            exact h
        · intro k hk q hq hqt v w w' h hr
          by_cases hs : k = 17
          · have hr0 := hr.1 hs
            rcases hs with rfl
            · exact (fun (h : _) (hr : _) => by exact h) h hr0
          · have hr := hr.2 hs
            exact h
        · intro k hk q hq hqt v w w' h hr
          by_cases hs : k = 17
          · have hr0 := hr.1 hs
            rcases hs with rfl
            · exact (fun (h : _) (hr : _) => by exact h) h hr0
          · have hr := hr.2 hs
            exact h
        · intro k hk q hq hqt v w w' h hr
          by_cases hs : k = 17
          · have hr0 := hr.1 hs
            rcases hs with rfl
            · exact (fun (h : _) (hr : _) => by exact h) h hr0
          · have hr := hr.2 hs
            exact h
        · intro k hk q hq hqt v w w' h hr
          by_cases hs : k = 17
          · have hr0 := hr.1 hs
            rcases hs with rfl
            · exact (fun (h : _) (hr : _) => by exact h) h hr0
          · have hr := hr.2 hs
            exact h
        · intro k hk q hq hqt v w w' h hr
          by_cases hs : k = 17
          · have hr0 := hr.1 hs
            rcases hs with rfl
            · exact absurd (hq.trans hqt) (ne_true_of_eq_false (by kernel_rfl))
          · have hr := hr.2 hs
            obtain ⟨g, h1, h2, h3⟩ := h; exact ⟨g, h1, Nat.lt_of_lt_of_le h2 hr.1.size, (hr.1.block g h2).trans h3⟩
        · intro k hk q hq hqt v w w' h hr
          by_cases hs : k = 17
          · have hr0 := hr.1 hs
            rcases hs with rfl
            · exact absurd (hq.trans hqt) (ne_true_of_eq_false (by kernel_rfl))
          · have hr := hr.2 hs
            exact own_kept h hr.1
        · intro k hk q hq hqt v w w' h hr
          by_cases hs : k = 17
          · have hr0 := hr.1 hs
            rcases hs with rfl
            · exact (fun (h : _) (hr : _) => by exact h) h hr0
          · have hr := hr.2 hs
            exact h
        · intro k hk q hq hqt v w w' h hr
          by_cases hs : k = 17
          · have hr0 := hr.1 hs
            rcases hs with rfl
            · exact (fun (h : _) (hr : _) => by exact h) h hr0
          · have hr := hr.2 hs
            exact h
        · intro k hk q hq hqt v w w' h hr
          by_cases hs : k = 17
          · have hr0 := hr.1 hs
            rcases hs with rfl
            · exact (fun (h : _) (hr : _) => by exact h) h hr0
          · have hr := hr.2 hs
            exact h
        · intro k hk q hq hqt v w w' h hr
          by_cases hs : k = 17
          · have hr0 := hr.1 hs
            rcases hs with rfl
            · exact (fun (h : _) (hr : _) => by exact h) h hr0
          · have hr := hr.2 hs
            exact h
        · intro k hk q hq hqt v w w' h hr
          by_cases hs : k = 17
          · have hr0 := hr.1 hs
            rcases hs with rfl
            · exact (fun (h : _) (hr : _) => by exact h) h hr0
          · have hr := hr.2 hs
            exact h
      · intro i hi
        rcases (by omega : i = 0 ∨ i = 1 ∨ i = 2 ∨ i = 3 ∨ i = 4 ∨ i = 5 ∨ i = 6 ∨ i = 7 ∨ i = 8 ∨ i = 9 ∨ i = 10 ∨ i = 11 ∨ i = 12 ∨ i = 13 ∨ i = 14 ∨ i = 15 ∨ i = 16 ∨ i = 17 ∨ i = 18 ∨ i = 19 ∨ i = 20 ∨ i = 21 ∨ i = 22) with rfl | rfl | rfl | rfl | rfl | rfl | rfl | rfl | rfl | rfl | rfl | rfl | rfl | rfl | rfl | rfl | rfl | rfl | rfl | rfl | rfl | rfl | rfl
        · -- 0: Op.move (Operand.tmp 0)
          intro l hl vs W hS hR hp
          obtain rfl : l = [] := hl.symm.trans (by kernel_rfl)
          clear hp hl
          refine opgoal (_) (some 33) rfl rfl fun K hK => ?_
          refine Runs.mk ?_
          simp only [putAll]
          go_simp
          refine hK _ _ ?_ hS ⟨fun h => absurd h (by decide), fun _ => ((fun w => ⟨Below.refl _ _, Below.refl _ _⟩) W)⟩ _ rfl rfl
          first | rfl | go_simp | simp
        · -- 1: Op.call { callee := Callee.value (Operand.func 15), args := #[Operand.tmp 33], argTypes := #[22] }
          intro l hl vs W hS hR hp
          obtain rfl : l = [(0, 33)] := hl.symm.trans (by kernel_rfl)
          have p0 : vs 0 = _ := hp 0 (by decide) (by decide)
          clear hp hl
          refine opgoal (_) (some 34) rfl rfl fun K hK => ?_
          refine Runs.mk ?_
          simp only [putAll]
          go_simp
          refine (sum_any _ _ _ sa _ (Hra.out.below (below_of_drew hR)) Hsa.out).mono ?_
          rintro e w' ⟨rfl, hbx⟩
          go_simp
          exact hK _ _ rfl (Nat.le_trans hS hbx.size) ⟨fun h => absurd h (by decide), fun _ => ⟨hbx, hbx.mono hS⟩⟩ _ rfl rfl
        · -- 2: Op.move (Operand.tmp 1)
          intro l hl vs W hS hR hp
          obtain rfl : l = [] := hl.symm.trans (by kernel_rfl)
          clear hp hl
          refine opgoal (_) (some 35) rfl rfl fun K hK => ?_
          refine Runs.mk ?_
          simp only [putAll]
          go_simp
          refine hK _ _ ?_ hS ⟨fun h => absurd h (by decide), fun _ => ((fun w => ⟨Below.refl _ _, Below.refl _ _⟩) W)⟩ _ rfl rfl
          first | rfl | go_simp | simp
        · -- 3: Op.call { callee := Callee.value (Operand.func 18), args := #[Operand.tmp 34, Operand.tmp 35], argTypes := #[25, 22] }
          intro l hl vs W hS hR hp
          obtain rfl : l = [(0, 33), (1, 34), (2, 35)] := hl.symm.trans (by kernel_rfl)
          have p1 : vs 1 = _ := hp 1 (by decide) (by decide)
          have p2 : vs 2 = _ := hp 2 (by decide) (by decide)
          clear hp hl
          refine opgoal (_) (some 36) rfl rfl fun K hK => ?_
          refine Runs.mk ?_
          simp only [putAll]
          go_simp
          refine (more_any _ _ _ _ sb_ _ (more_lt _ _ (by decide) (sbs_lt _)) (Hrb.out.below (below_of_drew hR)) Hsb.out).mono ?_
          rintro e w' ⟨rfl, hbx⟩
          go_simp
          exact hK _ _ rfl (Nat.le_trans hS hbx.size) ⟨fun h => absurd h (by decide), fun _ => ⟨hbx, hbx.mono hS⟩⟩ _ rfl rfl
        · -- 4: Op.move (Operand.tmp 8)
          intro l hl vs W hS hR hp
          obtain rfl : l = [] := hl.symm.trans (by kernel_rfl)
          clear hp hl
          refine opgoal (_) (some 37) rfl rfl fun K hK => ?_
          refine Runs.mk ?_
          simp only [putAll]
          go_simp
          refine hK _ _ ?_ hS ⟨fun h => absurd h (by decide), fun _ => ((fun w => ⟨Below.refl _ _, Below.refl _ _⟩) W)⟩ _ rfl rfl
          first | rfl | go_simp | simp
        · -- 5: Op.binOp BinOp.eql 25 (Operand.tmp 36) (Operand.tmp 37) 25
          intro l hl vs W hS hR hp
          obtain rfl : l = [(0, 33), (1, 34), (2, 35), (3, 36), (4, 37)] := hl.symm.trans (by kernel_rfl)
          have p3 : vs 3 = _ := hp 3 (by decide) (by decide)
          have p4 : vs 4 = _ := hp 4 (by decide) (by decide)
          clear hp hl
          refine opgoal (_) (some 38) rfl rfl fun K hK => ?_
          have hq := h12.out
          refine Runs.mk ?_
          simp only [putAll]
          go_simp
          refine hK _ _ ?_ hS ⟨fun h => absurd h (by decide), fun _ => ((fun w => ⟨Below.refl _ _, Below.refl _ _⟩) W)⟩ _ rfl rfl
          first | rfl | go_simp | simp
        · -- 6: Op.move (Operand.tmp 38)
          intro l hl vs W hS hR hp
          obtain rfl : l = [(0, 33), (1, 34), (2, 35), (3, 36), (4, 37), (5, 38)] := hl.symm.trans (by kernel_rfl)
          have p5 : vs 5 = _ := hp 5 (by decide) (by decide)
          clear hp hl
          refine opgoal (_) (some 39) rfl rfl fun K hK => ?_
          refine Runs.mk ?_
          simp only [putAll]
          go_simp
          refine hK _ _ ?_ hS ⟨fun h => absurd h (by decide), fun _ => ((fun w => ⟨Below.refl _ _, Below.refl _ _⟩) W)⟩ _ rfl rfl
          first | rfl | go_simp | simp
        · -- 7: Op.buildSlice 22 0 #[]  [(6, 'true')]
          intro l hl vs W hS hR hp
          obtain rfl : l = [(0, 33), (1, 34), (2, 35), (3, 36), (4, 37), (5, 38), (6, 39)] := hl.symm.trans (by kernel_rfl)
          have p6 : vs 6 = _ := hp 6 (by decide) (by decide)
          clear hp hl
          refine opgoal (_) (some 40) rfl rfl fun K hK => ?_
          refine Runs.mk ?_
          simp only [putAll]
          go_simp
          refine hK _ _ ⟨_, rfl, ?_⟩ (by simp; omega) ⟨fun h => absurd h (by decide), fun _ => ⟨(Below.refl _ _).alloc (Nat.le_refl _) _, (Below.refl _ _).alloc hS _⟩⟩ _ rfl rfl
          exact World.ownsRow_lit (size := 1) W #[] 0 hS (by decide) rfl
        · -- 8: Op.move (Operand.tmp 0)  [(6, 'true')]
          intro l hl vs W hS hR hp
          obtain rfl : l = [(0, 33), (1, 34), (2, 35), (3, 36), (4, 37), (5, 38), (6, 39)] := hl.symm.trans (by kernel_rfl)
          have p6 : vs 6 = _ := hp 6 (by decide) (by decide)
          clear hp hl
          refine opgoal (_) (some 41) rfl rfl fun K hK => ?_
          refine Runs.mk ?_
          simp only [putAll]
          go_simp
          refine hK _ _ ?_ hS ⟨fun h => absurd h (by decide), fun _ => ((fun w => ⟨Below.refl _ _, Below.refl _ _⟩) W)⟩ _ rfl rfl
          first | rfl | go_simp | simp
        · -- 9: Op.call { callee := Callee.builtin Builtin.append, args := #[Operand.tmp 40, Operand.tmp 41], argTypes := #[22, 22] }  [(6, 'true')]
          intro l hl vs W hS hR hp
          obtain rfl : l = [(0, 33), (1, 34), (2, 35), (3, 36), (4, 37), (5, 38), (6, 39), (7, 40), (8, 41)] := hl.symm.trans (by kernel_rfl)
          have p6 : vs 6 = _ := hp 6 (by decide) (by decide)
          have p7 : (fun v w => ∃ A0, v = .slice A0 0 0 ∧ w.ownsRow wk.heap.size 9 1 v 0 []) (vs 7) W := hp 7 (by decide) (by decide)
          dsimp only at p7
          have p8 : vs 8 = _ := hp 8 (by decide) (by decide)
          clear hp hl
          obtain p6 := p6
          refine opgoal ({ dst := some 42, op := Op.call { callee := Callee.builtin Builtin.append, args := #[Operand.tmp 40, Operand.tmp 41], argTypes := #[22, 22] }, type := 22, pos := "law.go:76", after := #[{ on := 7, ground := Ground.data }, { on := 8, ground := Ground.data }, { on := 6, ground := Ground.chain }, { on := 6, ground := Ground.guard }], guard := some (6, true) }) (some 42) rfl rfl fun K hK => ?_
          obtain ⟨A0, q7, o7⟩ := p7
          rw [q7] at o7
          refine runs_append_fresh W (wanted_some (b := true) rfl (yielded_of (t := 39) rfl (by simp [putAll, Act.put, p6]))) _ _ wk.heap.size 22 9 (.string ⟨#[]⟩) 1 16 rfl (by kernel_rfl) (by kernel_rfl) rfl (by decide) (by decide) A0 (by simp [putAll, Act.put, Act.eval, q7]) o7 A na ca (by simp [putAll, Act.put, Act.eval, p8]) HAn.out (sa.map Value.string) hla3.out (Rd.lies (Hra.out.below (below_of_drew hR))) oa (by omega) hS ?_
          intro v' w' h1 h2
          exact hK _ _ h1 (Nat.le_trans hS h2.size) ⟨fun h => absurd h (by decide), fun _ => ⟨h2, h2.mono hS⟩⟩ _ put_dfs (put_slot (by simp))
        · -- 10: Op.move (Operand.tmp 7)  [(6, 'true')]
          intro l hl vs W hS hR hp
          obtain rfl : l = [(0, 33), (1, 34), (2, 35), (3, 36), (4, 37), (5, 38), (6, 39)] := hl.symm.trans (by kernel_rfl)
          have p6 : vs 6 = _ := hp 6 (by decide) (by decide)
          clear hp hl
          refine opgoal (_) (some 43) rfl rfl fun K hK => ?_
          refine Runs.mk ?_
          simp only [putAll]
          go_simp
          refine hK _ _ ?_ hS ⟨fun h => absurd h (by decide), fun _ => ((fun w => ⟨Below.refl _ _, Below.refl _ _⟩) W)⟩ _ rfl rfl
          first | rfl | go_simp | simp
        · -- 11: Op.move (Operand.tmp 2)  [(6, 'true')]
          intro l hl vs W hS hR hp
          obtain rfl : l = [(0, 33), (1, 34), (2, 35), (3, 36), (4, 37), (5, 38), (6, 39)] := hl.symm.trans (by kernel_rfl)
          have p6 : vs 6 = _ := hp 6 (by decide) (by decide)
          clear hp hl
          refine opgoal (_) (some 44) rfl rfl fun K hK => ?_
          refine Runs.mk ?_
          simp only [putAll]
          go_simp
          refine hK _ _ ?_ hS ⟨fun h => absurd h (by decide), fun _ => ((fun w => ⟨Below.refl _ _, Below.refl _ _⟩) W)⟩ _ rfl rfl
          first | rfl | go_simp | simp
        · -- 12: Op.slice 9 (Operand.tmp 43) none (some (Operand.tmp 44)) none  [(6, 'true')]
          intro l hl vs W hS hR hp
          obtain rfl : l = [(0, 33), (1, 34), (2, 35), (3, 36), (4, 37), (5, 38), (6, 39), (10, 43), (11, 44)] := hl.symm.trans (by kernel_rfl)
          have p6 : vs 6 = _ := hp 6 (by decide) (by decide)
          have p10 : vs 10 = _ := hp 10 (by decide) (by decide)
          have p11 : vs 11 = _ := hp 11 (by decide) (by decide)
          clear hp hl
          refine opgoal (_) (some 45) rfl rfl fun K hK => ?_
          have hk0 := HK.out
          refine Runs.mk ?_
          simp only [putAll]
          go_simp
          refine hK _ _ ?_ hS ⟨fun h => absurd h (by decide), fun _ => ((fun w => ⟨Below.refl _ _, Below.refl _ _⟩) W)⟩ _ rfl rfl
          first | rfl | go_simp | simp
        · -- 13: Op.move (Operand.tmp 7)  [(6, 'true')]
          intro l hl vs W hS hR hp
          obtain rfl : l = [(0, 33), (1, 34), (2, 35), (3, 36), (4, 37), (5, 38), (6, 39)] := hl.symm.trans (by kernel_rfl)
          have p6 : vs 6 = _ := hp 6 (by decide) (by decide)
          clear hp hl
          refine opgoal (_) (some 46) rfl rfl fun K hK => ?_
          refine Runs.mk ?_
          simp only [putAll]
          go_simp
          refine hK _ _ ?_ hS ⟨fun h => absurd h (by decide), fun _ => ((fun w => ⟨Below.refl _ _, Below.refl _ _⟩) W)⟩ _ rfl rfl
          first | rfl | go_simp | simp
        · -- 14: Op.move (Operand.tmp 2)  [(6, 'true')]
          intro l hl vs W hS hR hp
          obtain rfl : l = [(0, 33), (1, 34), (2, 35), (3, 36), (4, 37), (5, 38), (6, 39)] := hl.symm.trans (by kernel_rfl)
          have p6 : vs 6 = _ := hp 6 (by decide) (by decide)
          clear hp hl
          refine opgoal (_) (some 47) rfl rfl fun K hK => ?_
          refine Runs.mk ?_
          simp only [putAll]
          go_simp
          refine hK _ _ ?_ hS ⟨fun h => absurd h (by decide), fun _ => ((fun w => ⟨Below.refl _ _, Below.refl _ _⟩) W)⟩ _ rfl rfl
          first | rfl | go_simp | simp
        · -- 15: Op.slice 9 (Operand.tmp 46) (some (Operand.tmp 47)) none none  [(6, 'true')]
          intro l hl vs W hS hR hp
          obtain rfl : l = [(0, 33), (1, 34), (2, 35), (3, 36), (4, 37), (5, 38), (6, 39), (13, 46), (14, 47)] := hl.symm.trans (by kernel_rfl)
          have p6 : vs 6 = _ := hp 6 (by decide) (by decide)
          have p13 : vs 13 = _ := hp 13 (by decide) (by decide)
          have p14 : vs 14 = _ := hp 14 (by decide) (by decide)
          clear hp hl
          refine opgoal (_) (some 48) rfl rfl fun K hK => ?_
          have hk0 := HK.out
          refine Runs.mk ?_
          simp only [putAll]
          go_simp
          refine hK _ _ ?_ hS ⟨fun h => absurd h (by decide), fun _ => ((fun w => ⟨Below.refl _ _, Below.refl _ _⟩) W)⟩ _ rfl rfl
          first | rfl | go_simp | simp
        · -- 16: Op.buildSlice 22 2 #[(0, Operand.tmp 45), (1, Operand.tmp 48)]  [(6, 'true')]
          intro l hl vs W hS hR hp
          obtain rfl : l = [(0, 33), (1, 34), (2, 35), (3, 36), (4, 37), (5, 38), (6, 39), (10, 43), (11, 44), (12, 45), (13, 46), (14, 47), (15, 48)] := hl.symm.trans (by kernel_rfl)
          have p6 : vs 6 = _ := hp 6 (by decide) (by decide)
          have p12 : vs 12 = _ := hp 12 (by decide) (by decide)
          have p15 : vs 15 = _ := hp 15 (by decide) (by decide)
          clear hp hl
          refine opgoal (_) (some 49) rfl rfl fun K hK => ?_
          refine Runs.mk ?_
          simp only [putAll]
          go_simp
          refine hK _ _ ⟨W.heap.size, rfl, by simp, heap_alloc_new _ _⟩ (by simp; omega) ⟨fun h => absurd h (by decide), fun _ => ⟨(Below.refl _ _).alloc (Nat.le_refl _) _, (Below.refl _ _).alloc hS _⟩⟩ _ rfl rfl
        · -- 17: Op.call { callee := Callee.builtin Builtin.append, args := #[Operand.tmp 42, Operand.tmp 49], argTypes := #[22, 22] }  [(6, 'true')]
          intro l hl vs W hS hR hp
          obtain rfl : l = [(0, 33), (1, 34), (2, 35), (3, 36), (4, 37), (5, 38), (6, 39), (7, 40), (8, 41), (9, 42), (10, 43), (11, 44), (12, 45), (13, 46), (14, 47), (15, 48), (16, 49)] := hl.symm.trans (by kernel_rfl)
          have p6 : vs 6 = _ := hp 6 (by decide) (by decide)
          have p9 : (fun v w => w.ownsRow wk.heap.size 9 1 v na (sa.map Value.string)) (vs 9) W := hp 9 (by decide) (by decide)
          dsimp only at p9
          have p16 : (fun v w => ∃ g, v = .slice (some ⟨g, 0, none⟩) 2 2 ∧ g < w.heap.size ∧ w.heap[g]? = some (.cells #[.string (cs.extract 0 k), .string (cs.extract k cs.size)] 9 (0, 0))) (vs 16) W := hp 16 (by decide) (by decide)
          dsimp only at p16
          clear hp hl
          obtain p6 := p6
          refine opgoal ({ dst := some 50, op := Op.call { callee := Callee.builtin Builtin.append, args := #[Operand.tmp 42, Operand.tmp 49], argTypes := #[22, 22] }, type := 22, pos := "law.go:76", after := #[{ on := 9, ground := Ground.data }, { on := 16, ground := Ground.data }, { on := 9, ground := Ground.chain }, { on := 6, ground := Ground.guard }], guard := some (6, true) }) (some 50) rfl rfl fun K hK => ?_
          obtain ⟨g, q16, l16, b16⟩ := p16
          refine runs_append_src W (wanted_some (b := true) rfl (yielded_of (t := 39) rfl (by simp [putAll, Act.put, p6]))) _ _ wk.heap.size 22 9 (.string ⟨#[]⟩) 1 16 rfl (by kernel_rfl) (by kernel_rfl) rfl (by decide) (by decide) (vs 9) na _ (by simp [putAll, Act.put, Act.eval]) p9 (some ⟨g, 0, none⟩) 2 2 (by simp [putAll, Act.put, Act.eval, q16]) (fun h => by cases h) [.string (cs.extract 0 k), .string (cs.extract k cs.size)] rfl (lies_block b16) (by simp [Value.oneCell']) (by omega) hS ?_
          intro v' w' h1 h2 h3
          exact hK _ _ h1 (Nat.le_trans hS h2.size) ⟨fun _ => below_of_grown h2 hS (fun k hk => (own_lt p9 k hk).1), fun h => absurd rfl h⟩ _ put_dfs (put_slot (by simp))
        · -- 18: Op.call { callee := Callee.value (Operand.func 15), args := #[Operand.tmp 50], argTypes := #[22] }  [(6, 'true')]
          intro l hl vs W hS hR hp
          obtain rfl : l = [(0, 33), (1, 34), (2, 35), (3, 36), (4, 37), (5, 38), (6, 39), (7, 40), (8, 41), (9, 42), (10, 43), (11, 44), (12, 45), (13, 46), (14, 47), (15, 48), (16, 49), (17, 50)] := hl.symm.trans (by kernel_rfl)
          have p6 : vs 6 = _ := hp 6 (by decide) (by decide)
          have p17 : (fun v w => w.ownsRow wk.heap.size 9 1 v (na + 2) (sa.map Value.string ++ [.string (cs.extract 0 k), .string (cs.extract k cs.size)])) (vs 17) W := hp 17 (by decide) (by decide)
          dsimp only at p17
          clear hp hl
          refine opgoal (_) (some 51) rfl rfl fun K hK => ?_
          obtain ⟨A4, c4, q17, r17, _⟩ := own_rd p17
          refine Runs.mk ?_
          simp only [putAll]
          go_simp
          refine (sum_any _ _ _ (sa ++ [cs.extract 0 k, cs.extract k cs.size]) _ (by simpa using r17) hsj).mono ?_
          rintro e w' ⟨rfl, hbx⟩
          rw [hcut]
          go_simp
          exact hK _ _ rfl (Nat.le_trans hS hbx.size) ⟨fun h => absurd h (by decide), fun _ => ⟨hbx, hbx.mono hS⟩⟩ _ rfl rfl
        · -- 19: Op.move (Operand.tmp 8)  [(6, 'true')]
          intro l hl vs W hS hR hp
          obtain rfl : l = [(0, 33), (1, 34), (2, 35), (3, 36), (4, 37), (5, 38), (6, 39)] := hl.symm.trans (by kernel_rfl)
          have p6 : vs 6 = _ := hp 6 (by decide) (by decide)
          clear hp hl
          refine opgoal (_) (some 52) rfl rfl fun K hK => ?_
          refine Runs.mk ?_
          simp only [putAll]
          go_simp
          refine hK _ _ ?_ hS ⟨fun h => absurd h (by decide), fun _ => ((fun w => ⟨Below.refl _ _, Below.refl _ _⟩) W)⟩ _ rfl rfl
          first | rfl | go_simp | simp
        · -- 20: Op.binOp BinOp.eql 25 (Operand.tmp 51) (Operand.tmp 52) 25  [(6, 'true')]
          intro l hl vs W hS hR hp
          obtain rfl : l = [(0, 33), (1, 34), (2, 35), (3, 36), (4, 37), (5, 38), (6, 39), (7, 40), (8, 41), (9, 42), (10, 43), (11, 44), (12, 45), (13, 46), (14, 47), (15, 48), (16, 49), (17, 50), (18, 51), (19, 52)] := hl.symm.trans (by kernel_rfl)
          have p6 : vs 6 = _ := hp 6 (by decide) (by decide)
          have p18 : vs 18 = _ := hp 18 (by decide) (by decide)
          have p19 : vs 19 = _ := hp 19 (by decide) (by decide)
          clear hp hl
          refine opgoal (_) (some 53) rfl rfl fun K hK => ?_
          refine Runs.mk ?_
          simp only [putAll]
          go_simp
          refine hK _ _ ?_ hS ⟨fun h => absurd h (by decide), fun _ => ((fun w => ⟨Below.refl _ _, Below.refl _ _⟩) W)⟩ _ rfl rfl
          first | rfl | go_simp | simp
        · -- 21: Op.pick (Operand.tmp 39) (Operand.tmp 53) (Operand.const (Value.bool false))
          intro l hl vs W hS hR hp
          obtain rfl : l = [(0, 33), (1, 34), (2, 35), (3, 36), (4, 37), (5, 38), (6, 39), (7, 40), (8, 41), (9, 42), (10, 43), (11, 44), (12, 45), (13, 46), (14, 47), (15, 48), (16, 49), (17, 50), (18, 51), (19, 52), (20, 53)] := hl.symm.trans (by kernel_rfl)
          have p6 : vs 6 = _ := hp 6 (by decide) (by decide)
          have p20 : vs 20 = _ := hp 20 (by decide) (by decide)
          clear hp hl
          refine opgoal (_) (some 54) rfl rfl fun K hK => ?_
          refine Runs.mk ?_
          simp only [putAll]
          go_simp
          refine hK _ _ ?_ hS ⟨fun h => absurd h (by decide), fun _ => ((fun w => ⟨Below.refl _ _, Below.refl _ _⟩) W)⟩ _ rfl rfl
          first | rfl | go_simp | simp
        · -- 22: Op.assign (Operand.tmp 54)
          intro l hl vs W hS hR hp
          obtain rfl : l = [(0, 33), (1, 34), (2, 35), (3, 36), (4, 37), (5, 38), (6, 39), (7, 40), (8, 41), (9, 42), (10, 43), (11, 44), (12, 45), (13, 46), (14, 47), (15, 48), (16, 49), (17, 50), (18, 51), (19, 52), (20, 53), (21, 54)] := hl.symm.trans (by kernel_rfl)
          have p21 : vs 21 = _ := hp 21 (by decide) (by decide)
          clear hp hl
          refine opgoal (_) (some 6) rfl rfl fun K hK => ?_
          refine Runs.mk ?_
          simp only [putAll]
          go_simp
          refine hK _ _ ?_ hS ⟨fun h => absurd h (by decide), fun _ => ((fun w => ⟨Below.refl _ _, Below.refl _ _⟩) W)⟩ _ rfl rfl
          first | rfl | go_simp | simp
      · intro l hl vs W hS hR hp
        obtain rfl : l = [(0, 33), (1, 34), (2, 35), (3, 36), (4, 37), (5, 38), (6, 39), (7, 40), (8, 41), (9, 42), (10, 43), (11, 44), (12, 45), (13, 46), (14, 47), (15, 48), (16, 49), (17, 50), (18, 51), (19, 52), (20, 53), (21, 54), (22, 6)] := hl.symm.trans (by kernel_rfl)
        have p0 : vs 0 = _ := hp 0 (by decide) (by decide)
        have p1 : vs 1 = _ := hp 1 (by decide) (by decide)
        have p2 : vs 2 = _ := hp 2 (by decide) (by decide)
        have p3 : vs 3 = _ := hp 3 (by decide) (by decide)
        have p4 : vs 4 = _ := hp 4 (by decide) (by decide)
        have p5 : vs 5 = _ := hp 5 (by decide) (by decide)
        have p6 : vs 6 = _ := hp 6 (by decide) (by decide)
        have p8 : vs 8 = _ := hp 8 (by decide) (by decide)
        have p10 : vs 10 = _ := hp 10 (by decide) (by decide)
        have p11 : vs 11 = _ := hp 11 (by decide) (by decide)
        have p12 : vs 12 = _ := hp 12 (by decide) (by decide)
        have p13 : vs 13 = _ := hp 13 (by decide) (by decide)
        have p14 : vs 14 = _ := hp 14 (by decide) (by decide)
        have p15 : vs 15 = _ := hp 15 (by decide) (by decide)
        have p18 : vs 18 = _ := hp 18 (by decide) (by decide)
        have p19 : vs 19 = _ := hp 19 (by decide) (by decide)
        have p20 : vs 20 = _ := hp 20 (by decide) (by decide)
        have p21 : vs 21 = _ := hp 21 (by decide) (by decide)
        have p22 : vs 22 = _ := hp 22 (by decide) (by decide)
        clear hp hl
        simp only [putAll]
        go_wp2
        go_ret
        exact ⟨rfl, hbK.trans ((below_of_drew hR).mono hbK.size)⟩
end Go.Proofs.Ytljdiaokjocfpaa.Crc

/- cache: Drop, Stale. -/
import Derived.Test.YtbdcgfdchkbcnaaCaF
import Derived.Test.YtbdcgfdchkbcnaaSpA
namespace Go.Proofs.Ytbdcgfdchkbcnaa.Ca
open Go.RowKit Go.Proofs.Ytbdcgfdchkbcnaa.L Go.Proofs.Ytbdcgfdchkbcnaa.R Go.Proofs.Ytbdcgfdchkbcnaa.A Go.Proofs.Ytbdcgfdchkbcnaa.S Go.Proofs.Ytbdcgfdchkbcnaa.T Go.Proofs.Ytbdcgfdchkbcnaa.C Go.Proofs.Ytbdcgfdchkbcnaa.G Go.Proofs.Ytbdcgfdchkbcnaa.E Go.Proofs.Ytbdcgfdchkbcnaa.F
set_option linter.unusedVariables false
set_option linter.unusedSimpArgs false

theorem contains_any (A : Option Addr) (n c : Nat) (xs : List Int) (x : Int) (w : World) (hr : Rd w A n (xs.map (Value.int .i64))) :
    Calls Try.prog 82 #[.slice A n c, .int .i64 x] w fun e w' => e = .returned (.bool (xs.contains x)) ∧ w = w' := by
  have HC := Lib.hid (Go.Proofs.Ytbdcgfdchkbcnaa.Sp.index_any A n c xs x w hr _ rfl)
  have HX : Hid (decide (0 ≤ idx (fun y => x == y) xs) = xs.contains x) := Lib.hid (by rw [idx_any, List.contains_eq_any_beq])
  obtain ⟨r, hres⟩ : ∃ r, Hid (idx (fun y => x == y) xs = r) := ⟨_, Lib.hid rfl⟩
  rw [hres.out] at HC HX
  rw [← HX.out]
  clear hr
  go_enter Try.func82, Try.ntmps82
  go_wp2_with fail
  refine HC.out.mono ?_
  rintro e w1 ⟨rfl, rfl⟩
  go_wp2
  go_ret
  exact ⟨rfl, rfl⟩
theorem drop1 (x : Nat) (A : Option Addr) (n c : Nat) (xs : List Int) (z1 z2 z3 z4 : Int) (w : World) (hx : w.cell? ⟨x, 0, none⟩ = some (.slice A n c)) (hr : Rd w A n (xs.map (Value.int .i64))) :
    Calls Try.prog 81 #[.agg #[.int .i64 z1, .int .i64 z2, .int .i64 z3, .int .i64 z4], .pointer (some ⟨x, 0, none⟩)] w fun e w' => e = .returned (.bool (xs.contains z1)) ∧ Below w.heap.size w w' := by
  obtain ⟨W, hW⟩ : ∃ W, Hid (w.alloc (.cells #[.int .i64 z1, .int .i64 z2, .int .i64 z3, .int .i64 z4] 77) = W) := ⟨_, Lib.hid rfl⟩
  have hbl := Lib.hid (below_alloc w (.cells #[.int .i64 z1, .int .i64 z2, .int .i64 z3, .int .i64 z4] 77))
  rw [hW.out] at hbl
  have g2 : W.heap[w.heap.size]? = some (.cells #[.int .i64 z1, .int .i64 z2, .int .i64 z3, .int .i64 z4] 77 (0, 0)) := by rw [← hW.out]; exact heap_alloc_new _ _
  have k0 : W.cell? ⟨w.heap.size, 0, none⟩ = some (.int .i64 z1) := by rw [cell_of_row W _ 0 _ _ _ g2]; rfl
  have hx1 : W.cell? ⟨x, 0, none⟩ = some (.slice A n c) := cell_below hbl.out hx
  have HC := Lib.hid (contains_any A n c xs z1 W (hr.below hbl.out))
  obtain ⟨q, hq⟩ : ∃ q, Hid (xs.contains z1 = q) := ⟨_, Lib.hid rfl⟩
  rw [hq.out] at HC ⊢
  clear hr g2 hx
  go_enter Try.func81, Try.ntmps81
  go_wp2_with (rw [hW.out])
  refine HC.out.mono ?_
  rintro e w1 ⟨rfl, rfl⟩
  go_wp2
  go_ret
  exact ⟨rfl, hbl.out⟩
theorem bodied_drop1 : Bodied Try.prog 81 := fun _ _ => by kernel_rfl
/-- a test on entries, wherever only block g was written. -/
def ToldK (P : Program) (fn : FuncId) (cap : Array Value) (p : Ent → Bool) (S : List Nat) (w0 : World) (xs : List Ent) : Prop :=
  ∀ x ∈ xs, ∀ w1, Keep S w0 w1 → Calls P fn (#[aggE x] ++ cap) w1 fun e w' => e = .returned (.bool (p x)) ∧ Below w1.heap.size w1 w'
theorem ToldK.e {P : Program} {fn : FuncId} {cap : Array Value} {p : Ent → Bool} {S : List Nat} {w0 : World} {xs : List Ent} (h : ToldK P fn cap p S w0 xs) : ToldE P fn cap p w0 xs := fun x hx w1 hb => h x hx w1 (.of_below hb)
set_option maxHeartbeats 4000000 in
set_option maxRecDepth 100000 in
theorem delete_func (fn : FuncId) (cap : Array Value) (p : Ent → Bool) (base g cp n : Nat) (L : List Ent) (w : World) (hbd : Bodied Try.prog fn) (h : w.ownsRow base ET 4 (.slice (some ⟨g, 0, none⟩) n cp) n (L.flatMap encE)) (hl : L.length = n) (hf : ToldK Try.prog fn cap p [g] w L) :
    Calls Try.prog 80 #[.slice (some ⟨g, 0, none⟩) n cp, .func (.func fn) #[] cap] w fun e w' => e = .returned (.slice (some ⟨g, 0, none⟩) (L.filter fun x => !p x).length cp) ∧
      w'.ownsRow base ET 4 (.slice (some ⟨g, 0, none⟩) (L.filter fun x => !p x).length cp) (L.filter fun x => !p x).length ((L.filter fun x => !p x).flatMap encE) ∧ Keep [g] w w' := by
  obtain ⟨A, c', hv, hr, -, -⟩ := own_rdE h encE_len hl
  cases hv
  obtain ⟨_, hbg, hgw, hnc, hcm, hcell, hread⟩ := own_some h
  have HI := Lib.hid (index_ent fn cap p _ n cp L w hbd hr hf.e)
  have HF := Lib.hid hf
  have HH := Lib.hid h
  have HL := Lib.hid hl
  obtain ⟨R, hR⟩ : ∃ R, Hid ((L.filter fun x => !p x) = R) := ⟨_, Lib.hid rfl⟩
  rw [hR.out]
  unfold Bodied at hbd
  clear hr hf h hcell hread hl
  cases hx : L.findIdx? p with
  | none =>
    have hno : ∀ j, (hj : j < L.length) → p L[j] = false := fun j hj => List.findIdx?_eq_none_iff.1 hx _ (List.getElem_mem hj)
    have hi : idx p L = -1 := idx_none hno
    rw [hi] at HI
    have hRL : Hid (R = L) := Lib.hid (by
      rw [← hR.out, List.filter_eq_self]
      intro a ha
      obtain ⟨j, hj, rfl⟩ := List.getElem_of_mem ha
      simp [hno j hj])
    clear hno hi hx
    go_enter Try.func80, Try.ntmps80
    go_wp2_with fail
    refine HI.out.mono ?_
    rintro e w1 ⟨rfl, hb1⟩
    go_wp2
    go_ret
    rw [hRL.out, HL.out]
    exact ⟨rfl, own_kept HH.out hb1, Keep.of_below hb1⟩
  | some i0 =>
    obtain ⟨hi0, hpi, hfirst⟩ := List.findIdx?_eq_some_iff_getElem.1 hx
    have hi : idx p L = i0 := idx_some hi0 (fun j hj hji => by simpa using hfirst j hji) (by simpa using hpi)
    rw [hi] at HI
    have hin : i0 < n := by have := HL.out; omega
    have h0 : Hid (L.take i0 = (L.take (i0 + 1)).filter fun x => !p x) := Lib.hid (by
      rw [List.take_add_one, List.getElem?_eq_getElem hi0, Option.toList_some, List.filter_append, List.filter_cons_of_neg (by simp [hpi]), List.filter_nil, List.append_nil, eq_comm, List.filter_eq_self]
      intro a ha
      obtain ⟨j, hj, rfl⟩ := List.getElem_of_mem ha
      rw [List.length_take] at hj
      rw [List.getElem_take]
      simpa using hfirst j (by omega))
    clear hx hpi hfirst hi hi0
    have hbq : ((i0 : Int) == -1) = false := by rw [beq_eq_false_iff_ne]; omega
    go_enter Try.func80, Try.ntmps80
    go_wp2_with fail
    refine HI.out.mono ?_
    rintro e w1 ⟨rfl, hb1⟩
    have HB1 := Lib.hid hb1
    clear hb1
    go_wp2_with fail
    clear hbq
    go_loopw [5, 6] (fun ui uj wr => ∃ (i j : Nat) (T : List Ent), i < j ∧ j ≤ n ∧ ui = .int .i64 i ∧ uj = .int .i64 j ∧ T.length = n ∧ wr.ownsRow base ET 4 (.slice (some ⟨g, 0, none⟩) n cp) n (T.flatMap encE) ∧ Keep [g] w wr ∧ Hid (T.take i = ((L.take j).filter fun x => !p x) ∧ T.drop j = L.drop j)) (fun _ j _ => n - (intOf j).toNat)
    case atStart => exact ⟨i0, i0 + 1, L, by omega, by omega, rfl, by go_num, HL.out, own_kept HH.out HB1.out, Keep.of_below HB1.out, Lib.hid ⟨h0.out, rfl⟩⟩
    case round =>
      obtain ⟨i, j, T, hij, hjn, rfl, rfl, hTl, hown, hkp, hT⟩ := hrel
      by_cases hlt : j < n
      · have hjT : j < T.length := by omega
        have hjL : j < L.length := by have := HL.out; omega
        obtain ⟨z, hz⟩ : ∃ z : Ent, Hid (L[j] = z) := ⟨_, Lib.hid rfl⟩
        have hTz : T[j] = z := by
          have h1 := hT.out.2
          rw [List.drop_eq_getElem_cons hjT, List.drop_eq_getElem_cons hjL] at h1
          rw [← hz.out]
          exact (List.cons.inj h1).1
        have hTd : Hid (T.drop (j + 1) = L.drop (j + 1)) := Lib.hid (by
          have h1 := hT.out.2
          rw [List.drop_eq_getElem_cons hjT, List.drop_eq_getElem_cons hjL] at h1
          exact (List.cons.inj h1).2)
        have hLt : Hid (((L.take (j + 1)).filter fun x => !p x) = ((L.take j).filter fun x => !p x) ++ if p z then [] else [z]) := Lib.hid (by
          rw [List.take_add_one, List.getElem?_eq_getElem hjL, hz.out, Option.toList_some, List.filter_append]
          congr 1
          cases hp : p z <;> simp [hp])
        obtain ⟨A2, c2, hv2, hrT, -, -⟩ := own_rdE hown encE_len hTl
        cases hv2
        obtain ⟨ab, ao, hAe, c0, c1, c2, c3⟩ := ent_at hrT j hlt hjT z hTz
        obtain ⟨rfl, rfl⟩ : g = ab ∧ 0 = ao := by injection hAe with h1; injection h1 with h1 h2; exact ⟨h1, h2⟩
        rw [Nat.zero_add] at c0 c1 c2 c3
        obtain ⟨W, hW⟩ : ∃ W, Hid (wr.alloc (.cells #[.int .i64 z.1, .int .i64 z.2.1, .int .i64 z.2.2.1, .int .i64 z.2.2.2] 77) = W) := ⟨_, Lib.hid rfl⟩
        have hbW : Below wr.heap.size wr W := by rw [← hW.out]; exact below_alloc _ _
        have g2 : W.heap[wr.heap.size]? = some (.cells #[.int .i64 z.1, .int .i64 z.2.1, .int .i64 z.2.2.1, .int .i64 z.2.2.2] 77 (0, 0)) := by rw [← hW.out]; exact heap_alloc_new _ _
        have k0 : W.cell? ⟨wr.heap.size, 0, none⟩ = some (.int .i64 z.1) := by rw [cell_of_row W _ 0 _ _ _ g2]; rfl
        have k1 : W.cell? ⟨wr.heap.size, 1, none⟩ = some (.int .i64 z.2.1) := by rw [cell_of_row W _ 1 _ _ _ g2]; rfl
        have k2 : W.cell? ⟨wr.heap.size, 2, none⟩ = some (.int .i64 z.2.2.1) := by rw [cell_of_row W _ 2 _ _ _ g2]; rfl
        have k3 : W.cell? ⟨wr.heap.size, 3, none⟩ = some (.int .i64 z.2.2.2) := by rw [cell_of_row W _ 3 _ _ _ g2]; rfl
        have HC := Lib.hid (HF.out z (by rw [← hz.out]; exact List.getElem_mem _) W (hkp.trans (.of_below hbW)))
        obtain ⟨q, hq⟩ : ∃ q, Hid (p z = q) := ⟨_, Lib.hid rfl⟩
        rw [hq.out] at HC hLt
        have HO := Lib.hid hown
        have HKP := Lib.hid hkp
        have HBW := Lib.hid hbW
        have HTL := Lib.hid hTl
        clear hrT hTz hAe g2 hown hkp hbW hTl hz hq
        obtain ⟨z1, z2, z3, z4⟩ := z
        dsimp only [aggE] at HC c0 c1 c2 c3 k0 k1 k2 k3 hW
        cases q
        · obtain ⟨w2', hw2'⟩ : ∃ x : Nat, x = 0 := ⟨_, rfl⟩
          clear hw2' w2'
          have hi4 : i * 4 + 4 ≤ n * 4 := by omega
          go_wp2_with (rw [hW.out])
          refine HC.out.mono ?_
          rintro e w2 ⟨rfl, hb2⟩
          have HO2 := own_kept HO.out (below2 HBW.out hb2)
          obtain ⟨cur, hcur, hcs, hput⟩ := own_store HO2 (i * 4) [.int .i64 z1, .int .i64 z2, .int .i64 z3, .int .i64 z4] (by simpa using hi4)
          have hcs' : i * 4 + 4 ≤ cur.size := hcs
          replace k0 := cell_below hb2 k0
          replace k1 := cell_below hb2 k1
          replace k2 := cell_below hb2 k2
          replace k3 := cell_below hb2 k3
          have HB2 := Lib.hid (below2 HBW.out hb2)
          have HP := Lib.hid hput
          have HCU := Lib.hid hcur
          clear hb2 HO2 hcs hput hcur
          go_wp2_with (refine wpList_store_blk rfl 77 (.tmp 33) (.tmp 32) rfl g (i * 4) rfl 77 cur (.agg #[.int .i64 z1, .int .i64 z2, .int .i64 z3, .int .i64 z4]) rfl HCU.out (by kernel_rfl) hcs' (by simp [Value.cells, Value.oneCell']) _ rfl ?_; intro w5 hg5 hu5)
          go_roundw
          case rel =>
            have hTi : i < T.length := by have := HTL.out; omega
            have ho5 := HP.out w5 hg5
            have e5 := flat_set hTi (z1, z2, z3, z4)
            refine ⟨i + 1, j + 1, T.set i (z1, z2, z3, z4), by omega, by omega, by go_num, by go_num, by rw [List.length_set]; exact HTL.out, ?_, (HKP.out.trans (.of_below HB2.out)).trans (keep_upd hu5), Lib.hid ⟨?_, ?_⟩⟩
            · rw [← e5]; exact ho5
            · rw [hLt.out, ← hT.out.1, List.take_add_one, List.getElem?_set_self hTi, List.take_set_of_le (Nat.le_refl _)]
              rfl
            · rw [List.drop_set_of_lt (by omega)]; exact hTd.out
          case measure => simp [intOf]; omega
        · go_wp2_with (rw [hW.out])
          refine HC.out.mono ?_
          rintro e w2 ⟨rfl, hb2⟩
          go_wp2
          go_roundw
          case rel => exact ⟨i, j + 1, T, by omega, by omega, rfl, by go_num, HTL.out, own_kept HO.out (below2 HBW.out hb2), HKP.out.trans (.of_below (below2 HBW.out hb2)), Lib.hid ⟨by rw [hT.out.1, hLt.out]; simp, hTd.out⟩⟩
          case measure => simp [intOf]; omega
      · obtain rfl : j = n := by omega
        obtain ⟨_, _, _, _, _, hcell, _⟩ := own_some hown
        have hcl : ∀ ty, (Builtin.clear_ #[80] ty #[.slice (some ⟨g, i * 4, none⟩) (j - i) (cp - i)]).run Try.prog wr = .ok (.tuple #[]) (wr.setCells g (i * 4) (Builtin.zeroCells (Value.agg #[.int .i64 0, .int .i64 0, .int .i64 0, .int .i64 0]).cells (j - i)).toList) :=
          fun ty => run_clear_cells wr _ 77 ty _ 4 Try.underlying80 (fun w => by kernel_rfl) rfl (by decide) (by decide) g _ _ _ (by omega) (fun t ht => (hcell _ (by omega)).1) (fun t ht => (hcell _ (by omega)).2)
        have hzl : (Builtin.zeroCells (Value.agg #[.int .i64 0, .int .i64 0, .int .i64 0, .int .i64 0]).cells (j - i)).toList.length = (j - i) * 4 := by rw [len_zeros]; rfl
        obtain ⟨ho2, hk2⟩ := own_puts _ (i * 4) wr _ hown (show i * 4 + (Builtin.zeroCells (Value.agg #[.int .i64 0, .int .i64 0, .int .i64 0, .int .i64 0]).cells (j - i)).toList.length ≤ j * 4 by rw [hzl]; omega)
        have ho3 := own_cut ho2 i (by omega)
        have hTi : (T.take i) = R := by rw [hT.out.1, List.take_of_length_le (by have := HL.out; omega)]; exact hR.out
        have hRl : R.length = i := by rw [← hTi, List.length_take]; omega
        have hfx : (T.flatMap encE).length = j * 4 := by rw [flat_len encE_len, hTl]
        rw [List.append_assoc, List.take_append_of_le_length (by rw [List.length_take]; omega), List.take_take, Nat.min_self, flat_take encE_len, hTi] at ho3
        have HFIN := Lib.hid (And.intro ho3 (hkp.trans hk2))
        have HRL := Lib.hid hRl
        have hicp : ¬ (cp = i) := by omega
        have hicp2 : i ≤ cp := by omega
        clear hzl ho2 hk2 ho3 hTi hRl hfx hcell hown hkp
        go_wp2
        go_ret
        rw [HRL.out]
        exact ⟨rfl, HFIN.out⟩
end Go.Proofs.Ytbdcgfdchkbcnaa.Ca

/- Hold, drop, Free, Expire, Of, Held, New. -/
import Derived.Test.YtljdiaokjocfpaaLsC
import Derived.Test.YtljdiaokjocfpaaS
import Derived.Test.YtljdiaokjocfpaaT
namespace Go.Proofs.Ytljdiaokjocfpaa.Ls
open Go.RowKit Go.Proofs.Ytljdiaokjocfpaa.L Go.Proofs.Ytljdiaokjocfpaa.A Go.Proofs.Ytljdiaokjocfpaa.R Go.Proofs.Ytljdiaokjocfpaa.S Go.Proofs.Ytljdiaokjocfpaa.T
set_option linter.unusedVariables false
set_option linter.unusedSimpArgs false

theorem encAll_cons (s : Slt) (ss : List Slt) : encAll (s :: ss) = s.enc ++ encAll ss := rfl
theorem enc_len (s : Slt) : s.enc.length = 5 := rfl
theorem encAll_set : ∀ (ss : List Slt) (k : Nat) (s : Slt), k < ss.length → (encAll ss).take (k * 5) ++ s.enc ++ (encAll ss).drop (k * 5 + 5) = encAll (ss.set k s)
  | s0 :: ss, 0, s, _ => by
    simp only [Nat.zero_mul, List.take_zero, List.nil_append, Nat.zero_add, List.set_cons_zero, encAll_cons]
    rw [List.drop_append_of_le_length (by simp [enc_len])]
    rw [List.drop_eq_nil_of_le (by simp [enc_len])]
    rfl
  | s0 :: ss, k + 1, s, h => by
    have ih := encAll_set ss k s (by simpa using h)
    simp only [List.set_cons_succ, encAll_cons, ← ih]
    have e1 : (k + 1) * 5 = 5 + k * 5 := by omega
    have e2 : (k + 1) * 5 + 5 = 5 + (k * 5 + 5) := by omega
    rw [e1, Nat.add_assoc, ← enc_len s0, List.take_length_add_append, List.drop_length_add_append]
    simp
/-- what one store of a slot makes of a table. -/
theorem Tab.put {w w' : World} {b g : Nat} {ss : List Slt} (h : Tab w b g ss) (k : Nat) (hk : k < ss.length) (s : Slt) (hg : w'.heap[g]? = some (.cells (encAll (ss.set k s)).toArray 91 (0, 0))) (hu : Upd g w w') : Tab w' b g (ss.set k s) :=
  ⟨by rw [hu.block b h.ne, h.blk, List.length_set], hg, by rw [List.length_set]; exact h.len⟩
theorem take_enc (ss : List Slt) (k : Nat) (hk : k < ss.length) (s : Slt) : ((encAll ss).toArray.toList.take (k * 5) ++ (Value.agg s.enc.toArray).cells.toList ++ (encAll ss).toArray.toList.drop (k * 5 + (Value.agg s.enc.toArray).cells.size)).toArray = (encAll (ss.set k s)).toArray := by
  have : (Value.agg s.enc.toArray).cells.size = 5 := rfl
  rw [this, ← encAll_set ss k s hk]
  rfl
def hold1 (ta tb tc u : Int) (ss : List Slt) (x : Int) : List Slt := ss.set x.toNat ⟨ta, tb, tc, if (getS ss x).on then max u (getS ss x).u else u, true⟩
def holdE (ss : List Slt) (ta tb tc : Int) (xs : List Int) : Int := if xs.any (outB ss.length) then 1 else if mayV ss ta tb tc xs then 0 else 12
def holdS (ss : List Slt) (ta tb tc u : Int) (xs : List Int) : List Slt := if holdE ss ta tb tc xs = 0 then xs.foldl (hold1 ta tb tc u) ss else ss
theorem hold_fold_len (ta tb tc u : Int) (xs : List Int) : ∀ ss : List Slt, (xs.foldl (hold1 ta tb tc u) ss).length = ss.length := by
  induction xs with
  | nil => intro ss; rfl
  | cons x xs ih => intro ss; rw [List.foldl_cons, ih]; simp [hold1]
theorem slot_size : (Try.prog.info? 91).map (·.size) = some 5 := by kernel_rfl
theorem hold_nil (ta tb tc u : Int) (A : Option Addr) (n c : Nat) (w : World) :
    Calls Try.prog 29 #[.pointer none, .agg #[.int .i64 ta, .int .i64 tb, .int .i64 tc], .int .i64 u, .slice A n c] w fun e w' => e = .returned (.int .i64 1) ∧ Below w.heap.size w w' := by
  go_enter Try.func29, Try.ntmps29
  go_wp2_with fail
  refine (none_nil _ _ _ _).mono ?_
  rintro e w1 ⟨rfl, hb1⟩
  go_wp2
  go_ret
  exact ⟨rfl, below2 (below_alloc _ _) hb1⟩
set_option maxHeartbeats 4000000 in
set_option maxRecDepth 100000 in
theorem hold_any (b g : Nat) (ss : List Slt) (ta tb tc u : Int) (A : Option Addr) (n c : Nat) (xs : List Int) (w : World) (h : Tab w b g ss) (hr : Rd w A n (xs.map (Value.int .i64))) (hA : 0 < n → ∀ o, A = some o → o.block ≠ g) :
    Calls Try.prog 29 #[.pointer (some ⟨b, 0, none⟩), .agg #[.int .i64 ta, .int .i64 tb, .int .i64 tc], .int .i64 u, .slice A n c] w fun e w' => e = .returned (.int .i64 (holdE ss ta tb tc xs)) ∧ Tab w' b g (holdS ss ta tb tc u xs) ∧ Keep [g] w w' := by
  obtain ⟨W, hW⟩ : ∃ W, Hid (w.alloc (.cells #[.int .i64 ta, .int .i64 tb, .int .i64 tc] 55) = W) := ⟨_, Lib.hid rfl⟩
  have hal : Below w.heap.size w W := by rw [← hW.out]; exact below_alloc _ _
  have hy : ∀ j, W.cell? ⟨w.heap.size, j, none⟩ = (#[Value.int .i64 ta, .int .i64 tb, .int .i64 tc] : Array Value)[j]? := by
    intro j
    rw [← hW.out]
    exact cell_alloc w #[.int .i64 ta, .int .i64 tb, .int .i64 tc] 55 j
  have hy0 : W.cell? ⟨w.heap.size, 0, none⟩ = some (.int .i64 ta) := hy 0
  have hy1 : W.cell? ⟨w.heap.size, 1, none⟩ = some (.int .i64 tb) := hy 1
  have hy2 : W.cell? ⟨w.heap.size, 2, none⟩ = some (.int .i64 tc) := hy 2
  clear hy
  have hT := h.below hal
  have hrd := hr.below hal
  obtain ⟨q1, hq1⟩ : ∃ q1, Hid (xs.any (outB ss.length) = q1) := ⟨_, Lib.hid rfl⟩
  obtain ⟨q2, hq2⟩ : ∃ q2, Hid (mayV ss ta tb tc xs = q2) := ⟨_, Lib.hid rfl⟩
  have HN := Lib.hid (none_any b g ss A n c xs W hT hrd q1 hq1.out)
  have HM : Hid (∀ w1, Below W.heap.size W w1 → _) := Lib.hid (fun w1 hb1 => may_any b g ss ta tb tc A n c xs w1 (hT.below hb1) (hrd.below hb1) q2 hq2.out)
  obtain ⟨E, hE⟩ : ∃ E, Hid (holdE ss ta tb tc xs = E) := ⟨_, Lib.hid rfl⟩
  obtain ⟨F, hF⟩ : ∃ F, Hid (holdS ss ta tb tc u xs = F) := ⟨_, Lib.hid rfl⟩
  rw [hE.out, hF.out]
  have HT := Lib.hid hT
  have HR := Lib.hid hrd
  have hln := hrd.2.1
  clear hr h hrd hT
  cases q1 with
  | true =>
    have e1 : Hid (E = 1) := Lib.hid (by rw [← hE.out]; simp [holdE, hq1.out])
    have e2 : Hid (F = ss) := Lib.hid (by rw [← hF.out]; simp [holdS, hE.out, e1.out])
    clear hy0 hy1 hy2
    go_enter Try.func29, Try.ntmps29
    go_wp2_with fail
    rw [hW.out]
    refine HN.out.mono ?_
    rintro e w1 ⟨rfl, hb1⟩
    go_wp2
    go_ret
    exact ⟨retv (show Value.int .i64 1 = _ by rw [e1.out]), by rw [e2.out]; exact HT.out.below hb1, .of_below (below2 hal hb1)⟩
  | false =>
    cases q2 with
    | false =>
      have e1 : Hid (E = 12) := Lib.hid (by rw [← hE.out]; simp [holdE, hq1.out, hq2.out])
      have e2 : Hid (F = ss) := Lib.hid (by rw [← hF.out]; simp [holdS, hE.out, e1.out])
      go_enter Try.func29, Try.ntmps29
      go_wp2_with fail
      rw [hW.out]
      refine HN.out.mono ?_
      rintro e w1 ⟨rfl, hb1⟩
      have hz0 := cell_below hb1 hy0
      have hz1 := cell_below hb1 hy1
      have hz2 := cell_below hb1 hy2
      go_wp2_with fail
      refine (HM.out _ hb1).mono ?_
      rintro e w2 ⟨rfl, hb2⟩
      go_wp2
      go_ret
      exact ⟨retv (show Value.int .i64 12 = _ by rw [e1.out]), by rw [e2.out]; exact (HT.out.below hb1).below hb2, .of_below (below2 hal (below2 hb1 hb2))⟩
    | true =>
      have e1 : Hid (E = 0) := Lib.hid (by rw [← hE.out]; simp [holdE, hq1.out, hq2.out])
      have e2 : Hid (F = xs.foldl (hold1 ta tb tc u) ss) := Lib.hid (by rw [← hF.out]; simp [holdS, hE.out, e1.out])
      have hin := Lib.hid (any_false hq1.out)
      have hlw : w.heap.size < W.heap.size := World.block_lt_of_cell? W _ hy0
      have hgw : Hid (w.heap.size ≠ g) := Lib.hid (by
        intro e
        have := HT.out.cells (i := 0) (by have := HT.out.len; omega) _ rfl
        have h4 := HT.out.row
        rw [← e, ← hW.out, heap_alloc_new] at h4
        injection h4 with h4
        injection h4 with _ h4 _
        exact absurd h4 (by decide))
      go_enter Try.func29, Try.ntmps29
      go_wp2_with fail
      rw [hW.out]
      refine HN.out.mono ?_
      rintro e w1 ⟨rfl, hb1⟩
      have hz0 := cell_below hb1 hy0
      have hz1 := cell_below hb1 hy1
      have hz2 := cell_below hb1 hy2
      go_wp2_with fail
      refine (HM.out _ hb1).mono ?_
      rintro e w2 ⟨rfl, hb2⟩
      have hu0 := cell_below hb2 hz0
      have hu1 := cell_below hb2 hz1
      have hu2 := cell_below hb2 hz2
      have hb12 := Lib.hid (below2 hb1 hb2)
      clear hz0 hz1 hz2 hy0 hy1 hy2
      go_wp2_with fail
      go_loopw [24] (fun i wr => ∃ (k : Nat) (T : List Slt), k ≤ n ∧ i = .int .i64 k ∧ Tab wr b g T ∧ T.length = ss.length ∧ Keep [g] w2 wr ∧ Hid (T = (xs.take k).foldl (hold1 ta tb tc u) ss)) (fun i _ => n - (intOf i).toNat)
      case atStart => exact ⟨0, ss, by omega, rfl, HT.out.below hb12.out, rfl, Keep.refl _ _, Lib.hid rfl⟩
      case round =>
        obtain ⟨k, T, hk, rfl, hT, hTl, hK, hTe⟩ := hrel
        have hv0 := (hK.cell (p := ⟨w.heap.size, 0, none⟩) (World.block_lt_of_cell? _ _ hu0) (by simpa using hgw.out)).trans hu0
        have hv1 := (hK.cell (p := ⟨w.heap.size, 1, none⟩) (World.block_lt_of_cell? _ _ hu1) (by simpa using hgw.out)).trans hu1
        have hv2 := (hK.cell (p := ⟨w.heap.size, 2, none⟩) (World.block_lt_of_cell? _ _ hu2) (by simpa using hgw.out)).trans hu2
        by_cases hlt : k < n
        · have hr := (HR.out.below hb12.out).keep hK (fun b' o' e hm => hA (by omega) _ e (by simpa using hm))
          obtain ⟨ab, ao, hAe, hc⟩ := hr.2.2 (by omega)
          have hkl : k < xs.length := by have := hr.len; simp at this; omega
          subst hAe
          have hx := hin.out xs[k] (List.getElem_mem _)
          obtain ⟨m, hm, hml⟩ := out_false hx
          have hcell := hc k hlt
          rw [List.getElem?_map, List.getElem?_eq_getElem hkl, hm] at hcell
          simp only [Option.map_some] at hcell
          have hstep : Hid ((xs.take (k + 1)).foldl (hold1 ta tb tc u) ss = hold1 ta tb tc u T m) := Lib.hid (by rw [List.take_succ_eq_append_getElem hkl, List.foldl_append, ← hTe.out, hm]; rfl)
          rw [← hTl] at hml
          obtain ⟨s, hs⟩ : ∃ s, Hid (T[m] = s) := ⟨_, Lib.hid rfl⟩
          obtain ⟨c0, c1, c2, c3, c4⟩ := hT.cells hml s hs.out
          have hg : Hid (getS T m = s) := Lib.hid (by simp [getS, hml, hs.out])
          have hT0 := hT.c0
          obtain ⟨hbl, hgl⟩ := hT.lt
          have hlen := hT.len
          obtain ⟨L, hL⟩ : ∃ L, Hid (T.length = L) := ⟨_, Lib.hid rfl⟩
          rw [hL.out] at hT0 hlen hml
          have HT2 := Lib.hid hT
          have HTl := Lib.hid hTl
          have HX := Lib.hid hx
          have HM := Lib.hid hm
          clear hc hr hTl hT hx hm
          obtain ⟨sa, sb, sc, su, on⟩ := s
          dsimp only at c0 c1 c2 c3 c4
          cases on
          · go_wp2
            obtain ⟨wq, hwq⟩ : ∃ x, Hid (wr.alloc (.cells #[.int .i64 ta, .int .i64 tb, .int .i64 tc, .int .i64 u] 58) = x) := ⟨_, Lib.hid rfl⟩
            rw [hwq.out]
            refine region_tail 8 (by kernel_rfl) (by kernel_rfl) ?_
            intro wz hzs hbz
            have hbq : Below wr.heap.size wr wz := by have := below_alloc wr (.cells #[.int .i64 ta, .int .i64 tb, .int .i64 tc, .int .i64 u] 58); rw [hwq.out] at this; exact below2 this hbz
            have hq : ∀ j, wq.cell? ⟨wr.heap.size, j, none⟩ = (#[Value.int .i64 ta, .int .i64 tb, .int .i64 tc, .int .i64 u] : Array Value)[j]? := fun j => by rw [← hwq.out]; exact cell_alloc _ _ _ j
            have q0 : wz.cell? ⟨wr.heap.size, 0, none⟩ = some (.int .i64 ta) := cell_below hbz (hq 0)
            have q1 : wz.cell? ⟨wr.heap.size, 1, none⟩ = some (.int .i64 tb) := cell_below hbz (hq 1)
            have q2 : wz.cell? ⟨wr.heap.size, 2, none⟩ = some (.int .i64 tc) := cell_below hbz (hq 2)
            have q3 : wz.cell? ⟨wr.heap.size, 3, none⟩ = some (.int .i64 u) := cell_below hbz (hq 3)
            have qb := cell_below hbq hT0
            have hz5 := HT2.out.below hbq
            simp only [List.take_succ_cons, List.take_zero, List.drop_succ_cons, List.drop_zero]
            repeat still_step
            refine wpStill_nil ?_
            refine wpList_store_blk rfl 91 (.tmp 58) (.tmp 57) rfl g (m * 5) rfl 91 (encAll T).toArray (.agg (Slt.enc ⟨ta, tb, tc, u, true⟩).toArray) rfl hz5.row slot_size (by show m * 5 + 5 ≤ _; rw [List.size_toArray, encAll_len, hL.out]; omega) (by simp [Slt.enc, Value.cells, Value.oneCell']) _ (take_enc T m (by rw [hL.out]; exact hml) _) ?_
            intro w5 hg5 hu5
            go_wp2
            go_roundw
            case rel => exact ⟨k + 1, T.set m ⟨ta, tb, tc, u, true⟩, by omega, by go_num, hz5.put m (by rw [hL.out]; exact hml) _ hg5 hu5, by rw [List.length_set]; exact HTl.out, hK.trans ((Keep.of_below hbq).trans (keep_upd hu5)), Lib.hid (by rw [hstep.out]; simp [hold1, hg.out])⟩
            case measure => simp [intOf]; omega
          · go_wp2
            · have hsu : u < su := by assumption
              obtain ⟨wq, hwq⟩ : ∃ x, Hid (wr.alloc (.cells #[.int .i64 ta, .int .i64 tb, .int .i64 tc, .int .i64 su] 58) = x) := ⟨_, Lib.hid rfl⟩
              rw [hwq.out]
              refine region_tail 8 (by kernel_rfl) (by kernel_rfl) ?_
              intro wz hzs hbz
              have hbq : Below wr.heap.size wr wz := by have := below_alloc wr (.cells #[.int .i64 ta, .int .i64 tb, .int .i64 tc, .int .i64 su] 58); rw [hwq.out] at this; exact below2 this hbz
              have hq : ∀ j, wq.cell? ⟨wr.heap.size, j, none⟩ = (#[Value.int .i64 ta, .int .i64 tb, .int .i64 tc, .int .i64 su] : Array Value)[j]? := fun j => by rw [← hwq.out]; exact cell_alloc _ _ _ j
              have q0 : wz.cell? ⟨wr.heap.size, 0, none⟩ = some (.int .i64 ta) := cell_below hbz (hq 0)
              have q1 : wz.cell? ⟨wr.heap.size, 1, none⟩ = some (.int .i64 tb) := cell_below hbz (hq 1)
              have q2 : wz.cell? ⟨wr.heap.size, 2, none⟩ = some (.int .i64 tc) := cell_below hbz (hq 2)
              have q3 : wz.cell? ⟨wr.heap.size, 3, none⟩ = some (.int .i64 su) := cell_below hbz (hq 3)
              have qb := cell_below hbq hT0
              have hz5 := HT2.out.below hbq
              simp only [List.take_succ_cons, List.take_zero, List.drop_succ_cons, List.drop_zero]
              repeat still_step
              refine wpStill_nil ?_
              refine wpList_store_blk rfl 91 (.tmp 58) (.tmp 57) rfl g (m * 5) rfl 91 (encAll T).toArray (.agg (Slt.enc ⟨ta, tb, tc, su, true⟩).toArray) rfl hz5.row slot_size (by show m * 5 + 5 ≤ _; rw [List.size_toArray, encAll_len, hL.out]; omega) (by simp [Slt.enc, Value.cells, Value.oneCell']) _ (take_enc T m (by rw [hL.out]; exact hml) _) ?_
              intro w5 hg5 hu5
              go_wp2
              go_roundw
              case rel => exact ⟨k + 1, T.set m ⟨ta, tb, tc, su, true⟩, by omega, by go_num, hz5.put m (by rw [hL.out]; exact hml) _ hg5 hu5, by rw [List.length_set]; exact HTl.out, hK.trans ((Keep.of_below hbq).trans (keep_upd hu5)), Lib.hid (by rw [hstep.out]; simp [hold1, hg.out, Int.max_eq_right (Int.le_of_lt hsu)])⟩
              case measure => simp [intOf]; omega
            · have hsu : su ≤ u := by assumption
              obtain ⟨wq, hwq⟩ : ∃ x, Hid (wr.alloc (.cells #[.int .i64 ta, .int .i64 tb, .int .i64 tc, .int .i64 u] 58) = x) := ⟨_, Lib.hid rfl⟩
              rw [hwq.out]
              refine region_tail 8 (by kernel_rfl) (by kernel_rfl) ?_
              intro wz hzs hbz
              have hbq : Below wr.heap.size wr wz := by have := below_alloc wr (.cells #[.int .i64 ta, .int .i64 tb, .int .i64 tc, .int .i64 u] 58); rw [hwq.out] at this; exact below2 this hbz
              have hq : ∀ j, wq.cell? ⟨wr.heap.size, j, none⟩ = (#[Value.int .i64 ta, .int .i64 tb, .int .i64 tc, .int .i64 u] : Array Value)[j]? := fun j => by rw [← hwq.out]; exact cell_alloc _ _ _ j
              have q0 : wz.cell? ⟨wr.heap.size, 0, none⟩ = some (.int .i64 ta) := cell_below hbz (hq 0)
              have q1 : wz.cell? ⟨wr.heap.size, 1, none⟩ = some (.int .i64 tb) := cell_below hbz (hq 1)
              have q2 : wz.cell? ⟨wr.heap.size, 2, none⟩ = some (.int .i64 tc) := cell_below hbz (hq 2)
              have q3 : wz.cell? ⟨wr.heap.size, 3, none⟩ = some (.int .i64 u) := cell_below hbz (hq 3)
              have qb := cell_below hbq hT0
              have hz5 := HT2.out.below hbq
              simp only [List.take_succ_cons, List.take_zero, List.drop_succ_cons, List.drop_zero]
              repeat still_step
              refine wpStill_nil ?_
              refine wpList_store_blk rfl 91 (.tmp 58) (.tmp 57) rfl g (m * 5) rfl 91 (encAll T).toArray (.agg (Slt.enc ⟨ta, tb, tc, u, true⟩).toArray) rfl hz5.row slot_size (by show m * 5 + 5 ≤ _; rw [List.size_toArray, encAll_len, hL.out]; omega) (by simp [Slt.enc, Value.cells, Value.oneCell']) _ (take_enc T m (by rw [hL.out]; exact hml) _) ?_
              intro w5 hg5 hu5
              go_wp2
              go_roundw
              case rel => exact ⟨k + 1, T.set m ⟨ta, tb, tc, u, true⟩, by omega, by go_num, hz5.put m (by rw [hL.out]; exact hml) _ hg5 hu5, by rw [List.length_set]; exact HTl.out, hK.trans ((Keep.of_below hbq).trans (keep_upd hu5)), Lib.hid (by rw [hstep.out]; simp [hold1, hg.out, Int.max_eq_left hsu])⟩
              case measure => simp [intOf]; omega
        · have hke : k = n := by omega
          subst hke
          have hfin : Hid (T = F) := Lib.hid (by rw [hTe.out, e2.out, List.take_of_length_le (by have := HR.out.len; simp at this; omega)])
          clear hlt hk
          go_wp2
          go_ret
          exact ⟨retv (show Value.int .i64 0 = _ by rw [e1.out]), by rw [← hfin.out]; exact hT, (Keep.of_below (below2 hal hb12.out)).trans hK⟩
end Go.Proofs.Ytljdiaokjocfpaa.Ls

/- the document's Hold. -/
import Derived.Test.YtljdiaokjocfpaaLsS
namespace Go.Proofs.Ytljdiaokjocfpaa.Ls
open Go.RowKit Go.Proofs.Ytljdiaokjocfpaa.L Go.Proofs.Ytljdiaokjocfpaa.O Go.Proofs.Ytljdiaokjocfpaa.A Go.Proofs.Ytljdiaokjocfpaa.R Go.Proofs.Ytljdiaokjocfpaa.S Go.Proofs.Ytljdiaokjocfpaa.T
set_option linter.unusedVariables false
set_option linter.unusedSimpArgs false

theorem rd_low {w w1 : World} {A : Option Addr} {n B : Nat} {xs : List Value} (h : Rd w A n xs) (hb : Below B w w1) (hA : 0 < n → ∀ o, A = some o → o.block < B) : Rd w1 A n xs := by
  refine ⟨h.1, h.2.1, fun h0 => ?_⟩
  obtain ⟨b, o, e, hc⟩ := h.2.2 h0
  exact ⟨b, o, e, fun j hj => (World.cell?_of_block (w := w) (hb.block b (hA h0 _ e))).trans (hc j hj)⟩
def DocPost (w : World) (bw N : Nat) (A : Option Addr) (r : Int) (ds : List Dh) (e : Ending) (w' : World) : Prop :=
  e = .returned (.int .i64 r) ∧ ∃ A' ca', Doc w' bw N A' ca' ds ∧ Left w bw A A' w'
theorem toD_le (T : List Slt) : (toD T).length ≤ T.length := by unfold toD; rw [toDf_len]; exact heldN_le T
theorem fold_len (ta tb tc u : Int) (T : List Slt) (xs : List Int) : (xs.foldl (hold1 ta tb tc u) T).length = T.length := hold_fold_len ta tb tc u xs T
theorem fold_not (ta tb tc u : Int) (T : List Slt) : ∀ (xs : List Int), (∀ x ∈ xs, outB T.length x = false) → ∀ y, notP T ta tb tc y = false → outB T.length y = false → notP (xs.foldl (hold1 ta tb tc u) T) ta tb tc y = false
  | [], _, y, h, _ => h
  | x :: xs, hx, y, h, ho => by
    have hl : (hold1 ta tb tc u T x).length = T.length := by simp [hold1]
    exact fold_not ta tb tc u (hold1 ta tb tc u T x) xs (fun z hz => by rw [hl]; exact hx z (by simp [hz])) y (notP_step T ta tb tc u x y (hx x (by simp)) h ho) (by rw [hl]; exact ho)
set_option maxHeartbeats 4000000 in
set_option maxRecDepth 100000 in
theorem doc_hold (w : World) (bw N : Nat) (A : Option Addr) (ca : Nat) (T : List Slt) (ta tb tc u : Int) (Ax : Option Addr) (n c : Nat) (xs : List Int) (h : Doc w bw N A ca (toD T)) (hN : T.length = N) (hr : Rd w Ax n (xs.map (Value.int .i64))) (hAx : 0 < n → ∀ o, Ax = some o → o.block < bw) (E : Int) (F : List Slt) (hE : holdE T ta tb tc xs = E) (hF : holdS T ta tb tc u xs = F) :
    Calls Try.prog 34 #[.pointer (some ⟨bw, 0, none⟩), .agg #[.int .i64 ta, .int .i64 tb, .int .i64 tc], .int .i64 u, .slice Ax n c] w (DocPost w bw N A E (toD F)) := by
  obtain ⟨W, hW⟩ : ∃ W, Hid (w.alloc (.cells #[.int .i64 ta, .int .i64 tb, .int .i64 tc] 55) = W) := ⟨_, Lib.hid rfl⟩
  have hal : Below w.heap.size w W := by rw [← hW.out]; exact below_alloc _ _
  have hy : ∀ j, W.cell? ⟨w.heap.size, j, none⟩ = (#[Value.int .i64 ta, .int .i64 tb, .int .i64 tc] : Array Value)[j]? := by
    intro j
    rw [← hW.out]
    exact cell_alloc w #[.int .i64 ta, .int .i64 tb, .int .i64 tc] 55 j
  have y0 : W.cell? ⟨w.heap.size, 0, none⟩ = some (.int .i64 ta) := hy 0
  have y1 : W.cell? ⟨w.heap.size, 1, none⟩ = some (.int .i64 tb) := hy 1
  have y2 : W.cell? ⟨w.heap.size, 2, none⟩ = some (.int .i64 tc) := hy 2
  clear hy
  have hbw : Hid (Below bw w W) := Lib.hid (hal.mono (Nat.le_of_lt h.lt))
  have hbl := h.lt
  have hAb : Hid (∀ p, A = some p → p.block < w.heap.size) := Lib.hid (by
    rintro p rfl
    rcases h.own.2 with ⟨h1, _⟩ | ⟨g, cap, cur, h1, hb, hg, _⟩
    · cases h1
    · injection h1 with h1; injection h1 with h1; subst h1; exact (Array.getElem?_eq_some_iff.1 hg).1)
  have hD := Lib.hid (h.below hal)
  have HR := Lib.hid (hr.below hal)
  have hln := hr.2.1
  have hl : Hid (xs.length = n) := Lib.hid (by simpa using hr.len)
  clear h hr
  have HW := Lib.hid (worst_T T ta tb tc xs)
  rw [hE, hN] at HW
  have HE := Lib.hid hE
  have HF := Lib.hid hF
  have HN := Lib.hid hN
  clear hE hF hN
  go_enter Try.func34, Try.ntmps34
  go_wp2_with fail
  rw [hW.out]
  go_loopw [9, 10, 11] (fun v i _ wr => ∃ (k : Nat) (m : Int), k ≤ n ∧ i = .int .i64 k ∧ v = .int .i64 m ∧ Below W.heap.size W wr ∧ Hid (worst (oneE N (toD T) ta tb tc) (xs.take k) 0 = m)) (fun _ i _ _ => n - (intOf i).toNat)
  case atStart => exact ⟨0, 0, by omega, rfl, rfl, Below.refl _ _, Lib.hid rfl⟩
  case round =>
    obtain ⟨k, m, hk, rfl, rfl, hb, hm⟩ := hrel
    by_cases hlt : k < n
    · have hkl : k < xs.length := by rw [hl.out]; exact hlt
      obtain ⟨ab, ao, hA, hc⟩ := (HR.out.below hb).2.2 (by omega)
      subst hA
      obtain ⟨z, hz⟩ : ∃ z : Int, Hid (z = xs[k]) := ⟨_, Lib.hid rfl⟩
      have hcell := hc k hlt
      rw [List.getElem?_map, List.getElem?_eq_getElem hkl, ← hz.out] at hcell
      simp only [Option.map_some] at hcell
      have z0 := cell_below hb y0
      have z1 := cell_below hb y1
      have z2 := cell_below hb y2
      obtain ⟨r, hr⟩ : ∃ r, Hid (oneE N (toD T) ta tb tc z = r) := ⟨_, Lib.hid rfl⟩
      have HC : Hid (∀ w1, Below wr.heap.size wr w1 → _) := Lib.hid (fun w1 hb1 => one_ask w1 bw N A ca (toD T) ta tb tc u z ((hD.out.below hb).below hb1) r hr.out)
      have hstep : Hid (worst (oneE N (toD T) ta tb tc) (xs.take (k + 1)) 0 = if r = 1 ∨ m = 0 then r else m) := Lib.hid (by rw [List.take_succ_eq_append_getElem hkl, worst_app, hm.out, ← hz.out, hr.out])
      clear hc
      go_wp2
      refine region_tail 7 (by kernel_rfl) (by kernel_rfl) ?_
      intro wz hzs hbz
      have u0 := cell_below hbz z0
      have u1 := cell_below hbz z1
      have u2 := cell_below hbz z2
      have hcz := cell_below hbz hcell
      simp only [List.take_succ_cons, List.take_zero, List.drop_succ_cons, List.drop_zero]
      repeat still_step
      refine wpStill_nil ?_
      go_wp2_with fail
      refine (HC.out _ hbz).mono ?_
      rintro e w2 ⟨rfl, hb2⟩
      have hb3 := Lib.hid (below2 hb (below2 hbz hb2))
      clear hcell hcz u0 u1 u2 z0 z1 z2
      by_cases h1 : r = 1
      · have e1 : (r == 1) = true := by simpa using h1
        have hs2 : Hid (worst (oneE N (toD T) ta tb tc) (xs.take (k + 1)) 0 = r) := Lib.hid (by rw [hstep.out, if_pos (.inl h1)])
        clear h1
        go_wp2
        go_roundw
        case rel => exact ⟨k + 1, r, by omega, by go_num, rfl, hb3.out, hs2⟩
        case measure => simp [intOf]; omega
      · have e1 : (r == 1) = false := by simpa using h1
        by_cases h2 : m = 0
        · have e2 : (m == 0) = true := by simpa using h2
          have hs2 : Hid (worst (oneE N (toD T) ta tb tc) (xs.take (k + 1)) 0 = r) := Lib.hid (by rw [hstep.out, if_pos (.inr h2)])
          clear h1 h2
          go_wp2
          go_roundw
          case rel => exact ⟨k + 1, r, by omega, by go_num, rfl, hb3.out, hs2⟩
          case measure => simp [intOf]; omega
        · have e2 : (m == 0) = false := by simpa using h2
          have hs2 : Hid (worst (oneE N (toD T) ta tb tc) (xs.take (k + 1)) 0 = m) := Lib.hid (by rw [hstep.out, if_neg (by simp [h1, h2])])
          clear h1 h2
          go_wp2
          go_roundw
          case rel => exact ⟨k + 1, m, by omega, by go_num, rfl, hb3.out, hs2⟩
          case measure => simp [intOf]; omega
    · have hme : Hid (m = E) := Lib.hid (by rw [← hm.out, ← HW.out, List.take_of_length_le (by rw [hl.out]; omega)])
      by_cases h1 : m = 0
      · subst h1
        have hfold : Hid (xs.foldl (hold1 ta tb tc u) T = F) := Lib.hid (by rw [← HF.out, holdS, HE.out, ← hme.out]; simp)
        have hnot1 : xs.any (outB T.length) = false := by
          cases hq : xs.any (outB T.length) with
          | false => rfl
          | true => have := HE.out; rw [← hme.out] at this; simp [holdE, hq] at this
        have hnot2 : xs.any (notP T ta tb tc) = false := by
          cases hq : xs.any (notP T ta tb tc) with
          | false => rfl
          | true => have := HE.out; rw [← hme.out] at this; simp [holdE, mayV, hnot1, hq] at this
        have hin := Lib.hid (any_false hnot1)
        have hno := Lib.hid (any_false hnot2)
        clear hnot1 hnot2
        have z0 := cell_below hb y0
        have z1 := cell_below hb y1
        have z2 := cell_below hb y2
        have hwl : w.heap.size < wr.heap.size := World.block_lt_of_cell? _ _ z0
        have HB := Lib.hid hb
        obtain ⟨W1, hW1⟩ : ∃ W1, Hid (wr = W1) := ⟨_, Lib.hid rfl⟩
        rw [hW1.out] at z0 z1 z2 hwl HB ⊢
        clear hb
        go_wp2
        clear hlt hk
        go_loopw [12] (fun i wr => ∃ (k : Nat) (A' : Option Addr) (ca' : Nat), k ≤ n ∧ i = .int .i64 k ∧ Doc wr bw N A' ca' (toD ((xs.take k).foldl (hold1 ta tb tc u) T)) ∧ W1.heap.size ≤ wr.heap.size ∧ Left W1 bw A A' wr) (fun i _ => n - (intOf i).toNat)
        case atStart => exact ⟨0, A, ca, by omega, rfl, hD.out.below HB.out, Nat.le_refl _, Left.of_below (Below.refl _ _) (by omega)⟩
        case round =>
          obtain ⟨k, A', ca', hk, rfl, hDk, hsk, hLk⟩ := hrel
          have hbk := hLk.low
          have hxk := hLk.rest w.heap.size hwl (by omega) (fun p hp e => by have := hAb.out p hp; omega)
          by_cases hlt : k < n
          · have hkl : k < xs.length := by rw [hl.out]; exact hlt
            obtain ⟨ab, ao, hA, hc⟩ := (rd_low (HR.out.below HB.out) hbk hAx).2.2 (by omega)
            subst hA
            obtain ⟨z, hz⟩ : ∃ z : Int, Hid (z = xs[k]) := ⟨_, Lib.hid rfl⟩
            have hcell := hc k hlt
            rw [List.getElem?_map, List.getElem?_eq_getElem hkl, ← hz.out] at hcell
            simp only [Option.map_some] at hcell
            have u0 := (World.cell?_of_block (w := W1) (a := ⟨w.heap.size, 0, none⟩) hxk).trans z0
            have u1 := (World.cell?_of_block (w := W1) (a := ⟨w.heap.size, 1, none⟩) hxk).trans z1
            have u2 := (World.cell?_of_block (w := W1) (a := ⟨w.heap.size, 2, none⟩) hxk).trans z2
            obtain ⟨Tk, hTk⟩ : ∃ Tk, Hid ((xs.take k).foldl (hold1 ta tb tc u) T = Tk) := ⟨_, Lib.hid rfl⟩
            have hTl : Tk.length = N := by rw [← hTk.out, fold_len]; exact HN.out
            have hzo : outB Tk.length z = false := by rw [hTl, ← HN.out, hz.out]; exact hin.out _ (List.getElem_mem _)
            have hzn : notP Tk ta tb tc z = false := by
              rw [← hTk.out, hz.out]
              exact fold_not ta tb tc u T _ (fun x hx => hin.out x (List.mem_of_mem_take hx)) _ (hno.out _ (List.getElem_mem _)) (hin.out _ (List.getElem_mem _))
            have h0 : oneE N (toD Tk) ta tb tc z = 0 := by rw [← hTl, one_ask_T, hzo, hzn]; rfl
            have hstep : Hid ((xs.take (k + 1)).foldl (hold1 ta tb tc u) T = hold1 ta tb tc u Tk z) := Lib.hid (by rw [List.take_succ_eq_append_getElem hkl, List.foldl_append, hTk.out, ← hz.out]; rfl)
            have hle : (toD (hold1 ta tb tc u Tk z)).length ≤ 16 := Nat.le_trans (toD_le _) (by simp only [hold1, List.length_set]; rw [hTl]; exact hDk.N16)
            rw [hTk.out] at hDk
            have HC : Hid (∀ w1, Below wr.heap.size wr w1 → _) := Lib.hid (fun w1 hb1 => one_do w1 bw N A' ca' (toD Tk) ta tb tc u z (hDk.below hb1) h0 _ (one_do_T Tk ta tb tc u z hzo hzn) hle)
            have hwlk : w.heap.size < wr.heap.size := World.block_lt_of_cell? _ _ u0
            have hbk1 := hDk.lt
            have HLK := Lib.hid hLk
            clear hc hDk hbk hLk hxk
            go_wp2
            refine region_tail 7 (by kernel_rfl) (by kernel_rfl) ?_
            intro wz hzs hbz
            have v0 := cell_below hbz u0
            have v1 := cell_below hbz u1
            have v2 := cell_below hbz u2
            have hcz := cell_below hbz hcell
            simp only [List.take_succ_cons, List.take_zero, List.drop_succ_cons, List.drop_zero]
            repeat still_step
            refine wpStill_nil ?_
            go_wp2_with fail
            refine (HC.out _ hbz).mono ?_
            rintro e w2 ⟨rfl, A2, ca2, hD2, hL2⟩
            have hs22 : Hid (wz.heap.size ≤ w2.heap.size) := Lib.hid hL2.low.size
            have hszz := hbz.size
            have HD2 := Lib.hid hD2
            have HL2 : Hid (Left W1 bw A A2 w2) := Lib.hid ((HLK.out.trans (Left.of_below hbz (Nat.le_of_lt hbk1)) hsk).trans hL2 (by omega))
            have hs2 : W1.heap.size ≤ w2.heap.size := Nat.le_trans (by omega) hs22.out
            clear hL2 hD2 hcell hcz u0 u1 u2 v0 v1 v2
            go_wp2
            go_roundw
            case rel => exact ⟨k + 1, A2, ca2, by omega, by go_num, by rw [hstep.out]; exact HD2.out, hs2, HL2.out⟩
            case measure => simp [intOf]; omega
          · have hDF : Hid (Doc wr bw N A' ca' (toD F)) := Lib.hid (by rw [List.take_of_length_le (by rw [hl.out]; omega), hfold.out] at hDk; exact hDk)
            clear hDk
            go_wp2
            go_ret
            exact ⟨reti hme.out, _, _, hDF.out, (Left.of_below (below2 hal HB.out) (by omega)).trans hLk (Nat.le_trans hal.size HB.out.size)⟩
      · have e1 : (m != 0) = true := by simpa using h1
        have hF0 : Hid (T = F) := Lib.hid (by rw [← HF.out, holdS, HE.out, ← hme.out, if_neg h1])
        clear h1
        go_wp2
        go_ret
        exact ⟨reti hme.out, _, _, by rw [← hF0.out]; exact hD.out.below hb, Left.of_below (below2 hal hb) (by omega)⟩
end Go.Proofs.Ytljdiaokjocfpaa.Ls

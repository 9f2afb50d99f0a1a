/- LeaseTimes: the walk. -/
import Derived.Test.YtljdiaokjocfpaaLsM
import Derived.Test.YtljdiaokjocfpaaLsJ
namespace Go.Proofs.Ytljdiaokjocfpaa.Ls
open Go.RowKit Go.Proofs.Ytljdiaokjocfpaa.L Go.Proofs.Ytljdiaokjocfpaa.A Go.Proofs.Ytljdiaokjocfpaa.R Go.Proofs.Ytljdiaokjocfpaa.S Go.Proofs.Ytljdiaokjocfpaa.T
set_option linter.unusedVariables false
set_option linter.unusedSimpArgs false

theorem lt_of {w0 w : World} {b g : Nat} {ss : List Slt} (h : LT w0 w b g ss) (k : Nat) (hk : k < ss.length) (s : Slt) (hs : ss[k] = s) (V : Array Value) (on : Bool) (hV : holdOf s = V) (hon : s.on = on) :
    Calls Try.prog 31 #[.pointer (some ⟨b, 0, none⟩), .int .i64 k] w fun e w' => e = .returned (.tuple #[.agg V, .bool on]) ∧ LT w0 w' b g ss ∧ Below w.heap.size w w' := by
  subst hV; subst hon
  refine (of_in b g ss k w h.tab hk s hs).mono ?_
  rintro e w' ⟨he, hb⟩
  exact ⟨he, h.below hb, hb⟩
def byteV (l : List Nat) : List Value := l.map fun x : Nat => Value.int .u8 (x : Int)
theorem byte_at {w : World} {A : Option Addr} {n : Nat} {l : List Nat} (h : Rd w A n (byteV l)) (k : Nat) (hk : k < n) : ∃ b o, A = some ⟨b, o, none⟩ ∧ w.cell? ⟨b, o + k, none⟩ = some (.int .u8 ((l.getD k 0 : Nat) : Int)) := by
  obtain ⟨b, o, hA, hc⟩ := h.2.2 (by omega)
  refine ⟨b, o, hA, ?_⟩
  rw [hc k hk]
  have : k < l.length := by have := h.len; simp [byteV] at this; omega
  simp [byteV, this]
theorem byte_lt {l : List Nat} (h : ∀ x ∈ l, x < 256) (k : Nat) : l.getD k 0 < 256 := by
  by_cases hk : k < l.length
  · simp only [List.getD_eq_getElem?_getD, List.getElem?_eq_getElem hk, Option.getD_some]; exact h _ (List.getElem_mem _)
  · simp [List.getD_eq_getElem?_getD, List.getElem?_eq_none (by omega : l.length ≤ k)]
theorem addr_lt {w : World} {b o : Nat} {v : Value} (h : w.cell? ⟨b, o, none⟩ = some v) : b < w.heap.size := World.block_lt_of_cell? w _ h
set_option maxHeartbeats 8000000 in
set_option maxRecDepth 100000 in
theorem times_walk (w : World) (cc : Nat) (A B : Option Addr) (m ca q cb : Nat) (us st : List Nat) (hcc : cc < 256) (ha : Rd w A m (byteV us)) (hb : Rd w B q (byteV st)) (hus : ∀ x ∈ us, x < 256) (hst : ∀ x ∈ st, x < 256) :
    Calls Try.prog 9 #[.int .u8 cc, .slice A m ca, .slice B q cb] w fun e w' => e = .returned (.bool true) ∧ Below w.heap.size w w' := by
  have hmA := ha.2.1
  have hkB := hb.2.1
  have HA := Lib.hid ha
  have HB := Lib.hid hb
  have HUS := Lib.hid hus
  have HST := Lib.hid hst
  have hla : Hid (us.length = m) := Lib.hid (by have := ha.len; simpa [byteV] using this)
  have hlb : Hid (st.length = q) := Lib.hid (by have := hb.len; simpa [byteV] using this)
  clear ha hb hus hst
  by_cases a1 : 16 < m
  · go_enter Try.func9, Try.ntmps9
    go_wp2_with fail
    refine (awake_any w).mono ?_
    rintro e w1 ⟨rfl, hb1⟩
    go_wp2
    go_ret
    exact ⟨rfl, hb1⟩
  by_cases a2 : 60 < q
  · go_enter Try.func9, Try.ntmps9
    go_wp2_with fail
    refine (awake_any w).mono ?_
    rintro e w1 ⟨rfl, hb1⟩
    go_wp2
    go_ret
    exact ⟨rfl, hb1⟩
  obtain ⟨n, hn⟩ : ∃ n : Nat, Hid (1 + (cc : Int) % 16 = (n : Int)) := ⟨1 + cc % 16, Lib.hid (by omega)⟩
  have hn1 : 1 ≤ n := by have := hn.out; omega
  have hn2 : n ≤ 16 := by have := hn.out; omega
  have d1 : decide ((16 : Int) < (m : Int)) = false := by simp; omega
  have d2 : decide ((60 : Int) < (q : Int)) = false := by simp; omega
  go_enter Try.func9, Try.ntmps9
  go_wp2_with fail
  refine (awake_any w).mono ?_
  rintro e w1 ⟨rfl, hb1⟩
  have HA1 := Lib.hid (HA.out.below hb1)
  have HB1 := Lib.hid (HB.out.below hb1)
  go_wp2_with fail
  rw [hn.out]
  refine (new_any n w1 hn1 hn2).mono ?_
  rintro e w2 ⟨rfl, h2⟩
  rw [← initT_zero us n] at h2
  clear d1 d2
  go_wp2_with fail
  go_loopw [43] (fun i wr => ∃ j : Nat, j ≤ m ∧ i = .int .i64 j ∧ LT w1 wr (w1.heap.size + 1) w1.heap.size (initT us n j)) (fun i _ => m - (intOf i).toNat)
  case atStart => exact ⟨0, by omega, rfl, h2⟩
  case round =>
    obtain ⟨j, hj, rfl, hL⟩ := hrel
    by_cases hlt : j < m
    · obtain ⟨ab, ao, hAe, hcell⟩ := byte_at (HA1.out.below hL.low) j hlt
      subst hAe
      have hub := byte_lt HUS.out j
      have hI := Lib.hid (initT_hold us n j)
      obtain ⟨u, hu⟩ : ∃ u : Nat, Hid (us.getD j 0 = u) := ⟨_, Lib.hid rfl⟩
      rw [hu.out] at hcell hub hI
      have HL := Lib.hid hL
      clear hL h2
      by_cases hjn : j < n
      · go_wp2_with fail
        refine (lt_hold (HL.out.below (below_alloc _ _)) 0 0 ((j : Int) + 1) (u : Int) _ 1 1 [(j : Int)] (rd_block (xs := [.int .i64 (j : Int)]) (heap_alloc_new _ _) rfl (by omega)) (by rintro _ o ⟨⟩; have := HL.out.tab.lt.2; simp; omega) 0 _ (hI.out hjn).1 (hI.out hjn).2).mono ?_
        rintro e w3 ⟨rfl, h3, _⟩
        go_wp2
        go_roundw
        case rel => exact ⟨j + 1, by omega, by go_num, h3⟩
        case measure => simp [intOf]; omega
      · go_wp2
        go_roundw
        case rel => exact ⟨j + 1, by omega, by go_num, by rw [initT_over us n j (by omega)]; exact HL.out⟩
        case measure => simp [intOf]; omega
    · have hje : j = m := by omega
      subst hje
      have HT := Lib.hid (init_time us n)
      rw [hla.out] at HT
      have HL := Lib.hid hL
      clear hlt hj hL h2
      go_wp2_with fail
      go_loopw [12, 66] (fun nw i wr => ∃ (x now : Nat) (T : List Slt), x ≤ q ∧ i = .int .i64 x ∧ nw = .int .i64 now ∧ now ≤ 255 * x ∧ LT w1 wr (w1.heap.size + 1) w1.heap.size T ∧ Hid (AtTime us n now T)) (fun _ i _ => q - (intOf i).toNat)
      case atStart => exact ⟨0, 0, _, by omega, rfl, rfl, by omega, HL.out, HT⟩
      case round =>
        obtain ⟨x, now, T, hx, rfl, rfl, hnow, hL, hT⟩ := hrel
        by_cases hlt : x < q
        · obtain ⟨ab, ao, hBe, hcell⟩ := byte_at (HB1.out.below hL.low) x hlt
          subst hBe
          have hsb := byte_lt HST.out x
          obtain ⟨s, hs⟩ : ∃ s : Nat, Hid (st.getD x 0 = s) := ⟨_, Lib.hid rfl⟩
          rw [hs.out] at hcell hsb
          obtain ⟨nw, hnw⟩ : ∃ nw : Nat, Hid (now + s = nw) := ⟨_, Lib.hid rfl⟩
          have hnwb : nw ≤ 255 * x + 255 := by have := hnw.out; omega
          have hnwI : Hid ((now : Int) + (s : Int) = (nw : Int)) := Lib.hid (by have := hnw.out; omega)
          have hdrop := hT.out.drop s
          rw [hnw.out] at hdrop
          have hgone := Lib.hid (hT.out.gone (nw : Int))
          obtain ⟨l, hl⟩ : ∃ l, Hid (dropL (fun x => decide (x.u ≤ (nw : Int))) T T.length = l) := ⟨_, Lib.hid rfl⟩
          rw [hl.out] at hgone
          have HX := Lib.hid (lt_expire hL (nw : Int) l _ hl.out hdrop)
          clear hL hdrop HL HT
          go_wp2_with fail
          rw [hnwI.out]
          refine HX.out.mono ?_
          rintro e w3 ⟨A2, c2, rfl, hr3, hL3, _⟩
          clear hcell HX
          have hll : Hid (l.length ≤ 9223372036854775807) := Lib.hid hr3.2.1
          obtain ⟨L, hLl⟩ : ∃ L, Hid (l.length = L) := ⟨_, Lib.hid rfl⟩
          have hLb : L ≤ 9223372036854775807 := by have := hll.out; rw [hLl.out] at this; exact this
          rw [hLl.out] at hr3 ⊢
          have HR3 := Lib.hid hr3
          have HL3 := Lib.hid hL3
          clear hr3 hL3
          go_wp2_with fail
          go_loop [78] (fun i => ∃ y : Nat, y ≤ L ∧ i = .int .i64 y) (fun i => L - (intOf i).toNat)
          case atStart => exact ⟨0, by omega, rfl⟩
          case round =>
            obtain ⟨y, hy, rfl⟩ := hrel
            by_cases hyl : y < L
            · have hyl2 : y < l.length := by rw [hLl.out]; exact hyl
              obtain ⟨b2, o2, hA2, hc2⟩ := HR3.out.2.2 (by omega)
              subst hA2
              have hcell := hc2 y hyl
              obtain ⟨hc1, hc2', hc3⟩ := hgone.out l[y] (List.getElem_mem _)
              obtain ⟨c, hc⟩ : ∃ c, Hid (l[y] = c) := ⟨_, Lib.hid rfl⟩
              rw [intsV, List.getElem?_map, toI, List.getElem?_map, List.getElem?_eq_getElem hyl2, hc.out] at hcell
              simp only [Option.map_some] at hcell
              rw [hc.out] at hc1 hc2' hc3
              rw [hla.out] at hc2'
              obtain ⟨ab, ao, hAe, hcell2⟩ := byte_at (HA1.out.below HL3.out.low) c hc2'
              subst hAe
              have hub := byte_lt HUS.out c
              obtain ⟨u, hu⟩ : ∃ u : Nat, Hid (us.getD c 0 = u) := ⟨_, Lib.hid rfl⟩
              rw [hu.out] at hcell2 hub hc3
              clear hc2
              have e1 : decide ((c : Int) < 0) = false := by simp
              have e2 : decide ((n : Int) ≤ (c : Int)) = false := by simp; omega
              have e3 : decide ((nw : Int) < (u : Int)) = false := by simp; omega
              go_wp2
              go_round
              case rel => exact ⟨y + 1, by omega, by go_num⟩
              case measure => simp [intOf]; omega
            · clear hy
              go_wp2_with fail
              go_loopw [17] (fun i wr => ∃ z : Nat, z ≤ n ∧ i = .int .i64 z ∧ LT w1 wr (w1.heap.size + 1) w1.heap.size (atT us n nw)) (fun i _ => n - (intOf i).toNat)
              case atStart => exact ⟨0, by omega, rfl, HL3.out⟩
              case round =>
                obtain ⟨z, hz, rfl, hL⟩ := hrel
                by_cases hzn : z < n
                · by_cases hzm : z < j
                  · have hat := atT_at us n nw z hzn
                    have hub := byte_lt HUS.out z
                    obtain ⟨u, hu⟩ : ∃ u : Nat, Hid (us.getD z 0 = u) := ⟨_, Lib.hid rfl⟩
                    have HL := Lib.hid hL
                    clear hL
                    rw [hla.out, hu.out] at hat
                    rw [hu.out] at hub
                    have hzl : z < (atT us n nw).length := by rw [atT_len]; exact hzn
                    by_cases huw : nw < u
                    · rw [if_pos ⟨hzm, huw⟩] at hat
                      have HO := Lib.hid (lt_of HL.out z hzl _ hat #[.int .i64 0, .int .i64 0, .int .i64 ((z : Int) + 1), .int .i64 (u : Int)] true (by simp only [holdOf, slotT, hu.out, if_true]) rfl)
                      clear hat hzl
                      go_wp2_with fail
                      refine HO.out.mono ?_
                      rintro e w4 ⟨rfl, h4, hb4⟩
                      obtain ⟨ab, ao, hAe, hcell4⟩ := byte_at (HA1.out.below h4.low) z hzm
                      subst hAe
                      rw [hu.out] at hcell4
                      have hab := addr_lt hcell4
                      have H4 := Lib.hid h4
                      clear h4 HO
                      have e3 : decide ((nw : Int) < (u : Int)) = true := by simp; omega
                      go_wp2
                      go_quiet (fail)
                      go_wp2
                      go_roundw
                      case rel => exact ⟨z + 1, by omega, by go_num, (H4.out.below (below_alloc _ _)).below (below_drewN _ _)⟩
                      case measure => simp [intOf]; omega
                    · rw [if_neg (fun h => huw h.2)] at hat
                      have HO := Lib.hid (lt_of HL.out z hzl _ hat #[.int .i64 0, .int .i64 0, .int .i64 0, .int .i64 0] false (by simp [holdOf, zeroS]) rfl)
                      clear hat hzl
                      go_wp2_with fail
                      refine HO.out.mono ?_
                      rintro e w4 ⟨rfl, h4, hb4⟩
                      obtain ⟨ab, ao, hAe, hcell4⟩ := byte_at (HA1.out.below h4.low) z hzm
                      subst hAe
                      rw [hu.out] at hcell4
                      have hab := addr_lt hcell4
                      have H4 := Lib.hid h4
                      clear h4 HO
                      have e3 : decide ((nw : Int) < (u : Int)) = false := by simp; omega
                      go_wp2
                      go_quiet (fail)
                      go_wp2
                      go_roundw
                      case rel => exact ⟨z + 1, by omega, by go_num, (H4.out.below (below_alloc _ _)).below (below_drewN _ _)⟩
                      case measure => simp [intOf]; omega
                  · have HL := Lib.hid hL
                    clear hL
                    go_wp2
                    go_roundw
                    case rel => exact ⟨x + 1, nw, _, by omega, by go_num, rfl, by omega, HL.out, Lib.hid (atT_time us n nw)⟩
                    case measure => simp [intOf]; omega
                · have HL := Lib.hid hL
                  clear hL
                  go_wp2
                  go_roundw
                  case rel => exact ⟨x + 1, nw, _, by omega, by go_num, rfl, by omega, HL.out, Lib.hid (atT_time us n nw)⟩
                  case measure => simp [intOf]; omega
        · clear hx
          go_wp2
          go_ret
          exact ⟨rfl, below2 hb1 hL.low⟩
end Go.Proofs.Ytljdiaokjocfpaa.Ls

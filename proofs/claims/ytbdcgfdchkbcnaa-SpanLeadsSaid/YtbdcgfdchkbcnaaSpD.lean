/- Depth, Toward, Far; the document's example. -/
import Derived.Test.YtbdcgfdchkbcnaaSpM
namespace Go.Proofs.Ytbdcgfdchkbcnaa.Sp
open Go.RowKit Go.Proofs.Ytbdcgfdchkbcnaa.L Go.Proofs.Ytbdcgfdchkbcnaa.A Go.Proofs.Ytbdcgfdchkbcnaa.R Go.Proofs.Ytbdcgfdchkbcnaa.T Go.Proofs.Ytbdcgfdchkbcnaa.F Go.Proofs.Ytbdcgfdchkbcnaa.S
set_option linter.unusedVariables false
set_option linter.unusedSimpArgs false

theorem depth_any (n : Int) (w : World) (hn : -9223372036854775808 ≤ n ∧ n ≤ 9223372036854775807) : Calls Try.prog 37 #[.int .i64 n] w fun e w' => e = .returned (.int .i64 (depI n)) ∧ Below w.heap.size w w' := by
  have hlen : (upI n).length ≤ 63 := upI_len 63 n (by omega)
  obtain ⟨q, hq⟩ : ∃ q, Hid ((upI n).length = q) := ⟨_, Lib.hid rfl⟩
  obtain ⟨r, hr⟩ : ∃ r, Hid (depI n = r) := ⟨_, Lib.hid rfl⟩
  have hr2 := Lib.hid hr.out
  unfold depI at hr2
  rw [hq.out] at hr2 hlen
  rw [hr.out]
  have h64 : IntKind.i64.wrap ((q : Int) - 1) = (q : Int) - 1 := IntWalk.i64_in _ (by omega)
  have HC := Lib.hid (up_any n w hn)
  clear hn
  by_cases h0 : q = 0
  · subst h0
    have hres : Hid (0 = r) := Lib.hid (by simpa using hr2.out)
    go_enter Try.func37, Try.ntmps37
    go_wp2_with fail
    refine HC.out.mono ?_
    intro e w1 hG
    obtain ⟨A, c, rfl, _, _, _, hb⟩ := hG.rd
    rw [hq.out]
    clear hG HC
    go_wp2
    all_goals (go_ret; exact ⟨reti hres.out, hb⟩)
  · have hres : Hid ((q : Int) - 1 = r) := Lib.hid (by have := hr2.out; rw [if_neg h0] at this; exact this)
    go_enter Try.func37, Try.ntmps37
    go_wp2_with fail
    refine HC.out.mono ?_
    intro e w1 hG
    obtain ⟨A, c, rfl, _, _, _, hb⟩ := hG.rd
    rw [hq.out]
    clear hG HC
    go_wp2
    all_goals (go_ret; exact ⟨reti hres.out, hb⟩)
theorem toward_any (a b t : Int) (w : World) : Calls Try.prog 40 #[.int .i64 a, .int .i64 b, .int .i64 t] w fun e w' => e = .returned (.int .i64 (towI a b t)) ∧ Below w.heap.size w w' := by
  have HC := Lib.hid (path_any a b t w)
  obtain ⟨r, hr⟩ : ∃ r, Hid (towI a b t = r) := ⟨_, Lib.hid rfl⟩
  have hr2 := Lib.hid hr.out
  unfold towI at hr2
  rw [hr.out]
  obtain ⟨P, hP⟩ : ∃ P, Hid (pathL a b t = P) := ⟨_, Lib.hid rfl⟩
  rw [hP.out] at HC hr2
  match P, HC, hr2 with
  | [], HC, hr2 =>
    have hres : Hid (0 = r) := hr2
    go_enter Try.func40, Try.ntmps40
    go_wp2_with fail
    refine HC.out.mono ?_
    intro e w1 hG
    obtain ⟨A, c, rfl, _, _, _, hb⟩ := hG.rd
    clear hG HC
    go_wp2
    go_ret
    exact ⟨reti hres.out, hb⟩
  | [x], HC, hr2 =>
    have hres : Hid (a = r) := hr2
    go_enter Try.func40, Try.ntmps40
    go_wp2_with fail
    refine HC.out.mono ?_
    intro e w1 hG
    obtain ⟨A, c, rfl, _, _, _, hb⟩ := hG.rd
    clear hG HC
    go_wp2
    go_ret
    exact ⟨reti hres.out, hb⟩
  | x :: y :: l, HC, hr2 =>
    have hres : Hid (y = r) := hr2
    go_enter Try.func40, Try.ntmps40
    go_wp2_with fail
    refine HC.out.mono ?_
    intro e w1 hG
    obtain ⟨A, c, rfl, hr, _, _, hb⟩ := hG.rd
    obtain ⟨q, hq⟩ : ∃ q, Hid ((x :: y :: l).length = q) := ⟨_, Lib.hid rfl⟩
    rw [hq.out] at hr ⊢
    have hq2 : 2 ≤ q := by have := hq.out; simp at this; omega
    have hq3 := hr.2.1
    obtain ⟨ab, ao, hA, hc⟩ := hr.2.2 (by omega)
    subst hA
    have h1 : w1.cell? ⟨ab, ao + 1, none⟩ = some (.int .i64 y) := hc 1 (by omega)
    have e0 : ((q : Int) == 0) = false := by simp; omega
    have e1 : ((q : Int) == 1) = false := by simp; omega
    clear hc hG HC hr
    go_wp2
    go_ret
    exact ⟨reti hres.out, hb⟩
theorem path_len (a b t : Int) : (pathL a b t).length ≤ 100 := by
  unfold pathL
  split
  · rename_i h
    have hr := has_rng h
    have h1 := upI_len 5 a (by omega)
    have h2 := upI_len 5 b (by omega)
    have key : ∀ (u acc : List Int), (pathGo (upI b) acc u).length ≤ acc.length + u.length + 5 := by
      intro u
      induction u with
      | nil => intro acc; simp [pathGo]
      | cons x u ih =>
        intro acc
        rw [pathGo]
        split
        · simp; omega
        · have := ih (acc ++ [x])
          simp at this ⊢
          omega
    have := key (upI a) []
    simp at this
    omega
  · simp
set_option maxHeartbeats 2000000 in
theorem far_any (t : Int) (w : World) (ht : -9223372036854775808 ≤ t ∧ t ≤ 9223372036854775807) : Calls Try.prog 45 #[.int .i64 t] w fun e w' => e = .returned (.int .i64 (farI t)) ∧ Below w.heap.size w w' := by
  have hr0 : Rd (w.alloc (.cells #[.int .i64 t] 3)) (some ⟨w.heap.size, 0, none⟩) 1 ([t].map (Value.int .i64)) := rd_block (xs := [.int .i64 t]) (heap_alloc_new _ _) rfl (by omega)
  obtain ⟨P, hP⟩ : ∃ P, Hid (farI t = P) := ⟨_, Lib.hid rfl⟩
  have hP2 := Lib.hid hP.out
  unfold farI at hP2
  rw [hP.out]
  cases hh : hasB t [t] with
  | false =>
    have hPn : Hid (0 = P) := Lib.hid (by rw [← hP2.out]; simp [hh])
    have HC := Lib.hid (has_any t _ 1 1 [t] _ hr0 false hh)
    clear hh hr0
    go_enter Try.func45, Try.ntmps45
    go_wp2_with fail
    refine HC.out.mono ?_
    rintro e w1 ⟨rfl, hb1⟩
    go_wp2
    go_ret
    exact ⟨reti hPn.out, below2 (below_alloc _ _) hb1⟩
  | true =>
    have hPn : Hid (outF t t.toNat = P) := Lib.hid (by rw [← hP2.out]; simp [hh])
    have HC := Lib.hid (has_any t _ 1 1 [t] _ hr0 true hh)
    have hrng : 1 ≤ t ∧ t ≤ 16 := by simp [hasB, offB] at hh; omega
    obtain ⟨n, rfl⟩ : ∃ n : Nat, t = (n : Int) := ⟨t.toNat, by omega⟩
    clear hh hr0 ht
    go_enter Try.func45, Try.ntmps45
    go_wp2_with fail
    refine HC.out.mono ?_
    rintro e w1 ⟨rfl, hb1⟩
    have HB1 := Lib.hid (below2 (below_alloc w (.cells #[.int .i64 (n : Int)] 3)) hb1)
    clear hb1 HC
    go_wp2_with fail
    go_loopg [3, 4] n (fun gk m i wr => ∃ k : Nat, gk = n - k ∧ k ≤ n ∧ i = .int .i64 ((k : Int) + 1) ∧ m = .int .i64 (outF n k) ∧ Below w1.heap.size w1 wr)
    case atStart => exact ⟨0, by omega, by omega, rfl, rfl, Below.refl _ _⟩
    case round =>
      obtain ⟨k, rfl, hk, rfl, rfl, hb⟩ := hrel
      by_cases hlt : k < n
      · obtain ⟨O, hO⟩ : ∃ O, Hid (outF n k = O) := ⟨_, Lib.hid rfl⟩
        rw [hO.out]
        have hstep : Hid (outF n (k + 1) = inF n ((k : Int) + 1) n O) := Lib.hid (by rw [outF, hO.out, Int.toNat_natCast])
        have HB := Lib.hid hb
        have dk : decide ((k : Int) + 1 ≤ (n : Int)) = true := by simp; omega
        clear hb
        go_wp2_with fail
        clear dk
        go_loopg [3, 5] n (fun gk m i wr => ∃ b : Nat, gk = n - b ∧ b ≤ n ∧ i = .int .i64 ((b : Int) + 1) ∧ m = .int .i64 (inF n ((k : Int) + 1) b O) ∧ Below w1.heap.size w1 wr)
        case atStart => exact ⟨0, by omega, by omega, rfl, rfl, HB.out⟩
        case round =>
          obtain ⟨b, rfl, hbn, rfl, rfl, hb⟩ := hrel
          by_cases hbl : b < n
          · obtain ⟨M, hM⟩ : ∃ M, Hid (inF n ((k : Int) + 1) b O = M) := ⟨_, Lib.hid rfl⟩
            rw [hM.out]
            have hPl := path_len ((k : Int) + 1) ((b : Int) + 1) n
            have hstep2 : Hid (inF n ((k : Int) + 1) (b + 1) O = most M (((pathL ((k : Int) + 1) ((b : Int) + 1) n).length : Int) - 1)) := Lib.hid (by rw [inF, hM.out])
            obtain ⟨q, hq⟩ : ∃ q, Hid ((pathL ((k : Int) + 1) ((b : Int) + 1) n).length = q) := ⟨_, Lib.hid rfl⟩
            rw [hq.out] at hstep2 hPl
            have h64 : IntKind.i64.wrap ((q : Int) - 1) = (q : Int) - 1 := IntWalk.i64_in _ (by omega)
            have HB2 := Lib.hid hb
            clear hb
            go_wp2_with fail
            refine (path_any _ _ _ _).mono ?_
            intro e w3 hG
            obtain ⟨A, c, rfl, _, _, _, hb3⟩ := hG.rd
            rw [hq.out]
            clear hG
            by_cases hx : M < (q : Int) - 1
            · go_wp2
              go_roundg (n - (b + 1))
              case measure => omega
              case rel => exact ⟨b + 1, rfl, by omega, by go_num, congrArg (Value.int .i64) (by rw [hstep2.out]; unfold most; rw [if_pos hx]), HB2.out.trans (hb3.mono HB2.out.size)⟩
            · go_wp2
              go_roundg (n - (b + 1))
              case measure => omega
              case rel => exact ⟨b + 1, rfl, by omega, by go_num, congrArg (Value.int .i64) (by rw [hstep2.out]; unfold most; rw [if_neg (by omega)]), HB2.out.trans (hb3.mono HB2.out.size)⟩
          · have hbe : b = n := by omega
            subst hbe
            have HB2 := Lib.hid hb
            clear hb hbn
            go_wp2
            go_roundg (b - (k + 1))
            case measure => omega
            case rel => exact ⟨k + 1, rfl, by omega, by go_num, congrArg (Value.int .i64) (by rw [hstep.out]), HB2.out⟩
      · have hke : k = n := by omega
        subst hke
        clear hk
        go_wp2
        go_ret
        exact ⟨reti (by have := hPn.out; rw [Int.toNat_natCast] at this; exact this), HB1.out.trans (hb.mono HB1.out.size)⟩
set_option maxHeartbeats 1000000 in
theorem awake_any (w : World) : Calls Try.prog 35 #[] w fun e w' => e = .returned (.bool true) ∧ Below w.heap.size w w' := by
  go_enter Try.func35, Try.ntmps35
  go_wp2_with fail
  refine (path_any 4 3 7 w).mono ?_
  intro e w1 hG
  rw [p437] at hG
  obtain ⟨A, c, rfl, hr, _, _, hb1⟩ := hG.rd
  have hr1 := Lib.hid (hr.below (below_alloc w1 (.cells #[.int .i64 4, .int .i64 2, .int .i64 1, .int .i64 3] 3)))
  clear hG hr
  go_wp2_with fail
  refine (same_any A _ 4 c 4 4 [4, 2, 1, 3] [4, 2, 1, 3] _ hr1.out (rd_block (xs := [.int .i64 4, .int .i64 2, .int .i64 1, .int .i64 3]) (heap_alloc_new _ _) rfl (by omega)) true (by kernel_rfl)).mono ?_
  rintro e w2 ⟨rfl, hb2⟩
  go_wp2_with fail
  refine (far_any 7 w2 (by omega)).mono ?_
  rintro e w3 ⟨rfl, hb3⟩
  rw [far7]
  go_wp2_with fail
  refine (parent_any 7 w3 (by omega)).mono ?_
  rintro e w4 ⟨rfl, rfl⟩
  rw [show parI 7 = 3 from by decide]
  go_wp2
  go_ret
  exact ⟨rfl, below2 (below2 hb1 (below_alloc _ _)) (below2 hb2 hb3)⟩
end Go.Proofs.Ytbdcgfdchkbcnaa.Sp

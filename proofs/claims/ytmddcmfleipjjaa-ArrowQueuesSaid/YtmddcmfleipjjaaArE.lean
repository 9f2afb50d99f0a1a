/- arrow: the law ArrowLeads. -/
import Derived.Test.YtmddcmfleipjjaaArD
namespace Go.Proofs.Ytmddcmfleipjjaa.Ar
open Go.RowKit Go.Proofs.Ytmddcmfleipjjaa.L Go.Proofs.Ytmddcmfleipjjaa.A Go.Proofs.Ytmddcmfleipjjaa.R Go.Proofs.Ytmddcmfleipjjaa.T Go.Proofs.Ytmddcmfleipjjaa.F Go.Proofs.Ytmddcmfleipjjaa.S Go.Proofs.Ytmddcmfleipjjaa.Sp Go.Proofs.Ytmddcmfleipjjaa.G Go.Proofs.Ytmddcmfleipjjaa.O Go.Proofs.Ytmddcmfleipjjaa.E
set_option linter.unusedVariables false
set_option linter.unusedSimpArgs false

theorem rem_in {x N : Nat} (hN : 0 < N) : ∃ r l : Nat, (x : Int) % (N : Int) = (r : Int) ∧ (1 : Int) + (r : Int) = (l : Int) ∧ In N l := by
  have h1 := Int.emod_nonneg (x : Int) (show (N : Int) ≠ 0 by omega)
  have h2 := Int.emod_lt_of_pos (x : Int) (show 0 < (N : Int) by omega)
  exact ⟨((x : Int) % (N : Int)).toNat, ((x : Int) % (N : Int)).toNat + 1, by omega, by omega, by omega, by omega⟩
set_option maxHeartbeats 8000000 in
set_option maxRecDepth 100000 in
theorem leads_walk (w : World) (mm oo : Nat) (hmm : mm < 256) (hoo : oo < 256) (A : Option Addr) (n c : Nat) (xs : List Nat) (hr : Rd w A n (xs.map fun x : Nat => Value.int .u8 (x : Int))) (hx : ∀ x ∈ xs, x < 256) :
    Calls Try.prog 3 #[.int .u8 mm, .int .u8 oo, .slice A n c] w fun e w' => e = .returned (.bool true) ∧ Below w.heap.size w w' := by
  obtain ⟨N, hN⟩ : ∃ N : Nat, Hid ((1 : Int) + (mm : Int) % 16 = (N : Int)) := ⟨1 + mm % 16, Lib.hid (by omega)⟩
  have hN1 : 0 < N := by have := hN.out; omega
  have hN2 : N ≤ 16 := by have := hN.out; omega
  obtain ⟨r0, l0, hr0, hl0e, hl0⟩ := rem_in (x := oo) hN1
  have hl0b : l0 ≤ 16 := Nat.le_trans hl0.2 hN2
  have hn9 := hr.2.1
  have HR := Lib.hid hr
  have HX := Lib.hid hx
  have HL : Hid (xs.length = n) := Lib.hid (by have := hr.len; simpa using this)
  have HA := Lib.hid (awake_any w)
  have HG : Hid (∀ W, Calls Try.prog 8 #[.int .i64 N, .int .i64 l0] W fun e w' => ∃ v, e = .returned (.tuple #[v, .bool true]) ∧ w'.ownsRow W.heap.size AR 3 v (N + 1) ((grL N l0 N).flatMap encA) ∧ Below W.heap.size W w') := Lib.hid fun W => grow_any N l0 hN2 hl0 W
  have hnz : ¬ ((N : Int) = 0) := by omega
  have hnz2 : ((N : Int) == 0) = false := by simp; omega
  clear hr hx
  go_enter Try.func3, Try.ntmps3
  go_wp2_with fail
  refine HA.out.mono ?_
  rintro e w1 ⟨rfl, hb1⟩
  have HB1 := Lib.hid hb1
  clear hb1
  go_wp2_with (rw [hN.out])
  refine (HG.out w1).mono ?_
  rintro e w2 ⟨v, rfl, ho, hb2⟩
  obtain ⟨g, cc, rfl⟩ : ∃ g c, v = .slice (some ⟨g, 0, none⟩) (N + 1) c := by
    rcases ho.2 with ⟨_, hn⟩ | ⟨g, cap, cur, hv, _⟩
    · omega
    · exact ⟨g, cap, hv⟩
  have HT0 : Hid (Tb w w2 g cc N (fun m => T m l0)) := Lib.hid ⟨own_base ho HB1.out.size, below2 HB1.out hb2⟩
  clear ho hb2
  by_cases hbig : 60 < n
  · have hd : decide ((60 : Int) < (n : Int)) = true := by simp; omega
    go_wp2
    go_ret
    exact ⟨rfl, HT0.out.bel⟩
  · have hd : decide ((60 : Int) < (n : Int)) = false := by simp; omega
    have hd2 : decide (60 < n) = false := by simp; omega
    go_wp2
    clear hd hd2 hr0 hl0e
    go_loopw [8, 50] (fun a i wr => ∃ (k l : Nat) (to : Nat → Nat), k ≤ n ∧ a = .int .i64 l ∧ i = .int .i64 k ∧ In N l ∧ Tb w wr g cc N to ∧ Hid (All N l to)) (fun _ i _ => n - (intOf i).toNat)
    case atStart => exact ⟨0, l0, _, by omega, rfl, rfl, hl0, HT0.out, Lib.hid fun m _ => rfl⟩
    case round =>
      obtain ⟨k, l, to, hkn, rfl, rfl, hl, htb, hall⟩ := hrel
      by_cases hlt : k < n
      · have hkl : k < xs.length := by have := HL.out; omega
        obtain ⟨x, hxe⟩ : ∃ x : Nat, Hid (xs[k] = x) := ⟨_, Lib.hid rfl⟩
        have hx256 : x < 256 := by rw [← hxe.out]; exact HX.out _ (List.getElem_mem _)
        obtain ⟨ab, ao, hA, hc⟩ := (HR.out.below htb.bel).2.2 (by omega)
        have hcell := hc k hlt
        rw [List.getElem?_map, List.getElem?_eq_getElem hkl, hxe.out] at hcell
        simp only [Option.map_some] at hcell
        subst hA
        clear hc
        obtain ⟨rx, who, hrx, hwho, hwi⟩ := rem_in (x := x) hN1
        have hw16 : who ≤ 16 := Nat.le_trans hwi.2 hN2
        have hwN : who < N + 1 := by have := hwi.2; omega
        have HW := htb.want hwi
        have hwt := hall.out who hwi
        have HLd := Lib.hid (Lead.start hN2 hall.out hwi hl)
        have htw := t_in hN2 hwi hl
        have hiff := t_self_iff (hwi.up hN2) (hl.up hN2)
        rw [hwt] at HW
        obtain ⟨tv0, htv0⟩ : ∃ tv : Nat, (if T who l = who then 0 else T who l) = tv := ⟨_, rfl⟩
        obtain ⟨gv0, hgv0⟩ : ∃ gv, (!(T who l == who)) = gv := ⟨_, rfl⟩
        rw [htv0, hgv0] at HW
        have HTV0 := Lib.hid (And.intro htv0 hgv0)
        clear htv0 hgv0
        have HW := Lib.hid HW
        have HTB := Lib.hid htb
        clear htb hall hwt
        go_wp2_with fail
        refine HW.out.mono ?_
        rintro e w3 ⟨rfl, ht3⟩
        have HT3 := Lib.hid ht3
        clear ht3 hcell hrx hwho
        go_wp2_with fail
        go_loopg [14, 15, 16, 17] 8 (fun gk tv gv av sv wr => ∃ (p : Nat) (to' : Nat → Nat), gk = 8 - D who p ∧ In N p ∧ tv = .int .i64 ((if T p l = p then 0 else T p l : Nat) : Int) ∧ gv = .bool (!(T p l == p)) ∧ av = .int .i64 p ∧ sv = .int .i64 (D who p : Nat) ∧ Tb w wr g cc N to' ∧ Hid (Lead N who l p to'))
        case atStart => exact ⟨who, _, by rw [(d_zero (hwi.up hN2) (hwi.up hN2)).2 rfl], hwi, by rw [HTV0.out.1], by rw [HTV0.out.2], rfl, by rw [(d_zero (hwi.up hN2) (hwi.up hN2)).2 rfl]; rfl, HT3.out, HLd⟩
        case round =>
          obtain ⟨p, to', rfl, hp, rfl, rfl, rfl, rfl, htb, hld⟩ := hrel
          have hD7 := Lead.far hN2 hld.out
          by_cases hpl : p = l
          · subst hpl
            have e0 : T p p = p := (t_self_iff (hp.up hN2) (hp.up hN2)).2 rfl
            have e1 : (T p p == p) = true := by simpa using e0
            have HAll : Hid (All N who to') := Lib.hid (hld.out.fin hN2)
            have HT4 := Lib.hid htb
            rw [e1, if_pos e0]
            clear htb hld e0 e1 hD7 hiff htw
            go_wp2_with fail
            go_loopg [22] N (fun gk mv wr => ∃ m : Nat, gk = N + 1 - m ∧ 1 ≤ m ∧ m ≤ N + 1 ∧ mv = .int .i64 m ∧ Tb w wr g cc N to')
            case atStart => exact ⟨1, by omega, by omega, by omega, rfl, HT4.out⟩
            case round =>
              obtain ⟨m, rfl, hm1, hm2, rfl, htb⟩ := hrel
              by_cases hml : m ≤ N
              · have hmd : decide ((m : Int) ≤ (N : Int)) = true := by simp; omega
                have HLS := Lib.hid (leads_any hN2 hwi HAll.out m ⟨hm1, hml⟩ _ htb)
                clear htb
                go_wp2_with fail
                refine HLS.out.mono ?_
                rintro e w6 ⟨rfl, ht6⟩
                have HT6 := Lib.hid ht6
                clear ht6
                go_wp2_with fail
                go_roundg (N + 1 - (m + 1))
                case measure => omega
                case rel => exact ⟨m + 1, by omega, by omega, by omega, by go_num, HT6.out⟩
              · have hmd : decide ((m : Int) ≤ (N : Int)) = false := by simp; omega
                have HT6 := Lib.hid htb
                clear htb
                go_wp2_with fail
                go_roundw
                case rel => exact ⟨k + 1, who, to', by omega, rfl, by go_num, hwi, HT6.out, HAll⟩
                case measure => simp [intOf]; omega
          · obtain ⟨hqi, hqne, hqp, htoq, hdq, hld2⟩ := hld.out.step hN2 hpl
            have hiq := t_self_iff (hp.up hN2) (hl.up hN2)
            have e0 : ¬ (T p l = p) := fun e => hpl (hiq.1 e)
            have e1 : (T p l == p) = false := by simpa using e0
            have HF : Hid (∀ W, Tb w W g cc N to' → Calls Try.prog 10 #[.pointer (some ⟨g, T p l * 3, none⟩), .int .i64 p] W fun e w' => e = .returned (.tuple #[.int .i64 ((if T (T p l) l = T p l then 0 else T (T p l) l : Nat) : Int), .bool (T (T p l) l == T p l), .int .i64 0]) ∧ Tb w w' g cc N (upd to' (T p l) p)) := Lib.hid fun W h => by
              have := Tb.find hN2 h hqi hp hqp hqne
              rw [htoq] at this
              exact this
            have HLD2 := Lib.hid hld2
            rw [e1, if_neg e0]
            obtain ⟨q, hqe⟩ : ∃ q, T p l = q := ⟨_, rfl⟩
            rw [hqe] at HF HLD2 hqi hdq ⊢
            have hq1 := hqi.1
            have hq2 := hqi.2
            have hqN : q < N + 1 := by omega
            have hDp : D who p ≤ 7 := hD7
            obtain ⟨dp, hdp⟩ : ∃ dp, D who p = dp := ⟨_, rfl⟩
            rw [hdp] at hdq hDp ⊢
            have HDP := Lib.hid hdp
            have hd1 : decide ((q : Int) < 1) = false := by simp; omega
            have hd2 : decide ((N : Int) < (q : Int)) = false := by simp; omega
            have hd3 : decide (N < q) = false := by simp; omega
            have hd4 : decide ((40 : Int) < (dp : Int)) = false := by simp; omega
            have hd5 : decide (40 < dp) = false := by simp; omega
            have HF5 := Lib.hid (HF.out _ htb)
            obtain ⟨tv, htv⟩ : ∃ tv : Nat, (if T q l = q then 0 else T q l) = tv := ⟨_, rfl⟩
            obtain ⟨gv, hgv⟩ : ∃ gv, (T q l == q) = gv := ⟨_, rfl⟩
            rw [htv, hgv] at HF5
            have HTV := Lib.hid (And.intro htv hgv)
            have HDQ := Lib.hid hdq
            clear htb hld hld2 hiq e0 e1 hqe hdp htoq hqp hqne hiff htw hD7 HF htv hgv hdq
            go_wp2_with fail
            refine HF5.out.mono ?_
            rintro e w5 ⟨rfl, ht5⟩
            have HT5 := Lib.hid ht5
            clear ht5 hd1 hd2 hd3 hd4 hd5
            go_wp2_with fail
            go_roundg (8 - (dp + 1))
            case measure => have := HDP.out; omega
            case rel => exact ⟨q, _, by rw [HDQ.out], hqi, by rw [HTV.out.1], by rw [HTV.out.2], rfl, by rw [HDQ.out]; go_num, HT5.out, HLD2⟩
      · obtain rfl : k = n := by omega
        have HB := Lib.hid htb.bel
        clear htb
        go_wp2
        go_ret
        exact ⟨rfl, HB.out⟩
theorem leads_row (w : World) (a b : Int) (s : Sl Int) (ha : (Lit.int .u8 a).wf = true) (hb : (Lit.int .u8 b).wf = true) (hs : SlOk w 1 1 (fun n : Int => [.int .u8 n]) (fun n => (Lit.int .u8 n).wf = true) s) :
    Calls Try.prog 3 #[.int .u8 a, .int .u8 b, .slice s.A s.n s.c] w fun e w' => e = .returned (.bool true) ∧ Below w.heap.size w w' := by
  have h1 := bounds_u8 ha
  have h2 := bounds_u8 hb
  obtain ⟨m, rfl⟩ : ∃ k : Nat, a = (k : Int) := ⟨a.toNat, by omega⟩
  obtain ⟨o, rfl⟩ : ∃ k : Nat, b = (k : Int) := ⟨b.toNat, by omega⟩
  obtain ⟨l, hr, hl⟩ := u8s_rd hs
  exact leads_walk w m o (by omega) (by omega) s.A s.n s.c l hr hl
end Go.Proofs.Ytmddcmfleipjjaa.Ar

/- wheel: the law WheelOrder. -/
import Derived.Test.YtbifmdepkbgnjaaWhO
import Derived.Test.YtbifmdepkbgnjaaWhF
import Derived.Test.YtbifmdepkbgnjaaWhI
import Derived.BigQuiet
import Derived.Deep.LoopGhost
namespace Go.Proofs.Ytbifmdepkbgnjaa.Wh
open Go.RowKit Go.Maps Go.Proofs.Ytbifmdepkbgnjaa.L Go.Proofs.Ytbifmdepkbgnjaa.R Go.Proofs.Ytbifmdepkbgnjaa.A Go.Proofs.Ytbifmdepkbgnjaa.S Go.Proofs.Ytbifmdepkbgnjaa.T Go.Proofs.Ytbifmdepkbgnjaa.C Go.Proofs.Ytbifmdepkbgnjaa.G Go.Proofs.Ytbifmdepkbgnjaa.E Go.Proofs.Ytbifmdepkbgnjaa.F
set_option linter.unusedVariables false
set_option linter.unusedSimpArgs false

theorem i64_of {n : Nat} (h : n < 1000000) : -9223372036854775808 ≤ (n : Int) ∧ (n : Int) ≤ 9223372036854775807 := by omega
set_option maxHeartbeats 16000000 in
set_option maxRecDepth 100000 in
theorem order_walk (w : World) (A1 : Option Addr) (n1 c1 : Nat) (xs : List Nat) (hr1 : Rd w A1 n1 (xs.map fun x : Nat => Value.int .u8 (x : Int))) (hx1 : ∀ x ∈ xs, x < 256) (hc1 : n1 ≤ c1) (af : Nat) (haf : af < 256) :
    Calls Try.prog 4 #[.slice A1 n1 c1, .int .u8 af] w fun e w' => e = .returned (.bool true) ∧ Below w.heap.size w w' := by
  have hn9 := hr1.2.1
  have HA := Lib.hid (awake_any w)
  have HXL : Hid (xs.length = n1) := Lib.hid (by have := hr1.len; simpa using this)
  have HX256 := Lib.hid hx1
  have HAT1 : Hid (∀ W, Below w.heap.size w W → ∀ k x, xs[k]? = some x → ∃ ab ao, A1 = some ⟨ab, ao, none⟩ ∧ W.cell? ⟨ab, ao + k, none⟩ = some (.int .u8 (x : Nat))) := Lib.hid fun W hb k x hx => by
    have hl : xs.length = n1 := by have := hr1.len; simpa using this
    have hk := (List.getElem?_eq_some_iff.1 hx).1
    obtain ⟨ab, ao, hA, hc⟩ := (hr1.below hb).2.2 (by omega)
    have h1 := hc k (by omega)
    rw [List.getElem?_map, hx] at h1
    exact ⟨ab, ao, hA, h1⟩
  obtain ⟨r, hr⟩ : ∃ r : Nat, (af : Int) % 50 = (r : Int) := ⟨af % 50, by omega⟩
  obtain ⟨n, hn⟩ : ∃ n : Nat, (1 : Int) + (r : Int) = (n : Int) := ⟨1 + r, by omega⟩
  have hn50 : 1 ≤ n ∧ n ≤ 50 := by omega
  clear hr1 hx1
  go_enter Try.func4, Try.ntmps4
  go_wp2_with fail
  refine HA.out.mono ?_
  rintro e w1 ⟨rfl, hb1⟩
  have HB1 := Lib.hid hb1
  clear hb1
  by_cases h1 : 60 < n1
  · have d1 : decide ((60 : Int) < (n1 : Int)) = true := by simp; omega
    have d2 : decide (60 < n1) = true := by simp; omega
    go_wp2_with fail
    go_ret
    exact ⟨rfl, HB1.out⟩
  have d1 : decide ((60 : Int) < (n1 : Int)) = false := by simp; omega
  have d2 : decide (60 < n1) = false := by simp; omega
  have HNW := Lib.hid (new_any w1)
  obtain ⟨b, hb⟩ : ∃ b, Hid (w1.heap.size = b) := ⟨_, Lib.hid rfl⟩
  rw [hb.out] at HNW
  go_wp2_with fail
  refine HNW.out.mono ?_
  rintro e w2 ⟨rfl, hw2, hb2⟩
  have HOW : Hid (Ow w w2 b 0 (.slice none 0 0) []) := Lib.hid (by
    have hs := HB1.out.size
    have hbe := hb.out
    exact ⟨hw2, HB1.out.trans (hb2.mono (by omega)), by omega, fun k hk => by cases hk⟩)
  clear hw2 hb2 d1 d2
  go_wp2_with fail
  have HHN := Lib.hid (And.intro hr hn)
  clear hr hn
  go_loopw [30] (fun i wr => ∃ (k : Nat) (v : Value) (M : List Pr), k ≤ n1 ∧ i = .int .i64 k ∧ Hid (Ow w wr b 0 v M ∧ OrdI n k xs M)) (fun i _ => n1 - (intOf i).toNat)
  case atStart => exact ⟨0, _, [], by omega, rfl, Lib.hid ⟨HOW.out, OrdI.start n xs⟩⟩
  case round =>
    obtain ⟨k, v, M, hk, rfl, HI⟩ := hrel
    by_cases hlt : k < n1
    · obtain ⟨x, hx⟩ : ∃ x, xs[k]? = some x := ⟨_, List.getElem?_eq_getElem (by have := HXL.out; omega)⟩
      obtain ⟨ab, ao, hA, hcell⟩ := HAT1.out wr HI.out.1.bel k x hx
      subst hA
      have hx256 : x < 256 := HX256.out x (List.mem_of_getElem? hx)
      have hS1 := HI.out.1.set (i := x) (d := n) (by have := HI.out.2.len; omega) (by omega)
      have HS1 := Lib.hid hS1
      obtain ⟨ki, hki⟩ : ∃ ki, 1000 + k = ki := ⟨_, rfl⟩
      obtain ⟨dn, hdn⟩ : ∃ dn, n + 1 + k = dn := ⟨_, rfl⟩
      have e1 : (1000 : Int) + (k : Int) = (ki : Int) := by omega
      have e2 : (n : Int) + 1 + (k : Int) = (dn : Int) := by omega
      have HNX := Lib.hid (HI.out.2.next hx hx256)
      rw [hki, hdn] at HNX
      have HLM : Hid ((off x M ++ [(x, n)]).length < 256 ∧ 1 ≤ dn ∧ dn ≤ 1000) := Lib.hid ⟨by
        have h1 : (off x M).length ≤ M.length := List.length_filter_le _ _
        have := HI.out.2.len
        simp only [List.length_append, List.length_singleton]
        omega, by omega⟩
      clear hS1 hx hki hdn
      go_wp2_with fail
      refine HS1.out.mono ?_
      rintro e w5 ⟨rfl, v5, ho5⟩
      have HS2 := Lib.hid (ho5.set (i := ki) (d := dn) HLM.out.1 HLM.out.2)
      clear ho5
      go_wp2_with fail
      refine HS2.out.mono ?_
      rintro e w6 ⟨rfl, v6, ho6⟩
      have HF := Lib.hid (And.intro ho6 HNX.out)
      clear ho6 e1 e2
      go_wp2_with fail
      go_roundw
      case rel => exact ⟨k + 1, v6, _, by omega, by go_num, HF⟩
      case measure => simp [intOf]; omega
    · have hkn : n1 = k := by omega
      subst hkn
      have HJ : Hid (Ow w wr b 0 v M ∧ OrdI n xs.length xs M) := Lib.hid ⟨HI.out.1, by rw [HXL.out]; exact HI.out.2⟩
      clear HI
      go_wp2_with fail
      obtain ⟨Wst, hWst⟩ : ∃ Wst, Hid (wr = Wst) := ⟨_, Lib.hid rfl⟩
      rw [hWst.out] at HJ ⊢
      go_loopw [9, 57] (fun wv iv wr => ∃ (k m cw : Nat) (Aw : Option Addr) (V : List Nat), k ≤ n1 ∧ m ≤ k ∧ iv = .int .i64 k ∧ wv = .slice Aw m cw ∧ Hid (wr.ownsRow Wst.heap.size IT 1 (.slice Aw m cw) m (V.map fun x : Nat => Value.int .i64 (x : Int)) ∧ Below Wst.heap.size Wst wr ∧ V ++ wantR (xs.drop k) = wantR xs)) (fun _ iv _ => n1 - (intOf iv).toNat)
      case atStart => exact ⟨0, 0, 0, none, [], by omega, by omega, rfl, rfl, Lib.hid ⟨World.ownsRow_nil _ _ _ _, Below.refl _ _, by simp⟩⟩
      case round =>
        obtain ⟨k, m, cw, Aw, V, hk, hmk, rfl, rfl, HI⟩ := hrel
        have hbw : Below w.heap.size w wr := HJ.out.1.bel.trans (HI.out.2.1.mono HJ.out.1.bel.size)
        by_cases hlt : k < n1
        · obtain ⟨x, hx⟩ : ∃ x, xs[k]? = some x := ⟨_, List.getElem?_eq_getElem (by have := HXL.out; omega)⟩
          obtain ⟨ab, ao, hA, hcell⟩ := HAT1.out wr hbw k x hx
          subst hA
          have hx256 : x < 256 := HX256.out x (List.mem_of_getElem? hx)
          obtain ⟨kx, hkx⟩ : ∃ kx, k + 1 = kx := ⟨_, rfl⟩
          have e1 : (k : Int) + 1 = (kx : Int) := by omega
          have hkx1 : kx ≤ n1 := by omega
          have hkx2 : kx ≤ c1 := by omega
          obtain ⟨aj, haj⟩ : ∃ aj, (if c1 = kx then some (⟨ab, ao, none⟩ : Addr) else some ⟨ab, ao + kx, none⟩) = some ⟨ab, aj, none⟩ := by
            by_cases h : c1 = kx
            · exact ⟨ao, by rw [if_pos h]⟩
            · exact ⟨ao + kx, by rw [if_neg h]⟩
          have HAJ : Hid (∀ j, j < n1 - kx → aj = ao + kx) := Lib.hid fun j hj => by
            rw [if_neg (by omega)] at haj
            injection haj with e
            injection e with _ e
            exact e.symm
          obtain ⟨nj, hnj⟩ : ∃ nj, n1 - kx = nj := ⟨_, rfl⟩
          have HNJ := Lib.hid hnj
          have HBW := Lib.hid hbw
          have HKX := Lib.hid (And.intro hkx hx)
          obtain ⟨cj, hcj⟩ : ∃ cj, c1 - kx = cj := ⟨_, rfl⟩
          have HI2 := Lib.hid HI.out
          obtain ⟨WB, hWB⟩ : ∃ WB, Hid (wr = WB) := ⟨_, Lib.hid rfl⟩
          clear hbw hkx hx HI
          go_wp2_with fail
          rw [hWB.out] at HI2 HBW ⊢
          clear haj e1 hcj
          go_loopg [12, 67] nj (fun gk lv jv wr => ∃ (j : Nat) (lb : Bool), gk = nj - j ∧ lv = .bool lb ∧ jv = .int .i64 j ∧ j ≤ nj ∧ Hid (wr = WB ∧ lb = ((xs.drop kx).take j).contains x))
          case atStart => exact ⟨0, false, rfl, rfl, rfl, by omega, Lib.hid ⟨rfl, rfl⟩⟩
          case round =>
            obtain ⟨j, lb, hgk, rfl, rfl, hj, HL⟩ := hrel
            rw [HL.out.1]
            by_cases hjn : j < nj
            · obtain ⟨y, hy⟩ : ∃ y, xs[kx + j]? = some y := ⟨_, List.getElem?_eq_getElem (by have := HXL.out; have := HNJ.out; omega)⟩
              obtain ⟨ab2, ao2, hA2, hcell2⟩ := HAT1.out WB HBW.out (kx + j) y hy
              injection hA2 with hA2
              injection hA2 with hA3 hA4
              subst hA3 hA4
              have hcell3 : WB.cell? ⟨ab, aj + j, none⟩ = some (.int .u8 (y : Nat)) := by
                rw [HAJ.out j (by have := HNJ.out; omega), Nat.add_assoc]
                exact hcell2
              have hyd : (xs.drop kx)[j]? = some y := by rw [List.getElem?_drop]; exact hy
              have HNX : Hid (((xs.drop kx).take (j + 1)).contains x = (lb || x == y)) := Lib.hid (by
                rw [List.take_add_one, hyd, HL.out.2, List.contains_append]
                simp only [Option.toList_some, List.contains_cons, List.contains_nil, Bool.or_false])
              clear hy hcell2 hyd
              cases lb with
              | true =>
                go_wp2_with fail
                go_roundg (nj - (j + 1))
                case measure => omega
                case rel => exact ⟨j + 1, true, rfl, rfl, by go_num, by omega, Lib.hid ⟨rfl, by rw [HNX.out]; rfl⟩⟩
              | false =>
                by_cases hyx : y = x
                · subst hyx
                  go_wp2_with fail
                  go_roundg (nj - (j + 1))
                  case measure => omega
                  case rel => exact ⟨j + 1, true, rfl, rfl, by go_num, by omega, Lib.hid ⟨rfl, by rw [HNX.out]; simp⟩⟩
                · have q1 : ((y : Int) == (x : Int)) = false := by simp; omega
                  have q2 : decide ((y : Int) = (x : Int)) = false := by simp; omega
                  have q3 : (y == x) = false := by simpa using hyx
                  have HQ : Hid ((x == y) = false) := Lib.hid (by simpa using fun h => hyx h.symm)
                  clear hyx
                  go_wp2_with fail
                  go_roundg (nj - (j + 1))
                  case measure => omega
                  case rel => exact ⟨j + 1, false, rfl, rfl, by go_num, by omega, Lib.hid ⟨rfl, by rw [HNX.out, HQ.out]; rfl⟩⟩
            · have hje : j = nj := by omega
              have hlb : lb = (xs.drop kx).contains x := by
                rw [HL.out.2, List.take_of_length_le (by rw [List.length_drop]; have := HXL.out; have := HNJ.out; omega)]
              have hwd := wantR_drop xs k x HKX.out.2
              rw [HKX.out.1, ← hlb] at hwd
              have HWD := Lib.hid hwd
              have hkk : Hid (k < n1 ∧ k + 1 = kx) := Lib.hid ⟨hlt, HKX.out.1⟩
              clear hwd hlb HL
              cases lb with
              | true =>
                go_wp2_with fail
                go_roundw
                case rel => exact ⟨kx, m, cw, Aw, V, by have := hkk.out; omega, by have := hkk.out; omega, by rw [← hkk.out.2]; go_num, rfl, Lib.hid ⟨HI2.out.1, HI2.out.2.1, by have h3 := HI2.out.2.2; rw [HWD.out, if_pos rfl] at h3; exact h3⟩⟩
                case measure => have := hkk.out; simp [intOf]; omega
              | false =>
                have hbA : Below WB.heap.size WB (WB.alloc (.cells #[.int .i64 x] IT)) := below_alloc _ _
                have HO2 := Lib.hid (own_kept HI2.out.1 hbA)
                have HB2 := Lib.hid (below2 HI2.out.2.1 hbA)
                have hm60 : m ≤ 60 := by omega
                clear hbA
                go_wp2_with (at_builtin; refine wpList_append_src _ rfl (.tmp 80) (.tmp 83) Wst.heap.size 38 IT (.int .i64 0) 1 8 rfl (by kernel_rfl) (by kernel_rfl) rfl (by decide) (by decide) _ m (V.map fun x : Nat => Value.int .i64 (x : Int)) rfl HO2.out (some ⟨WB.heap.size, 0, none⟩) 1 1 rfl (fun h => by cases h) [.int .i64 x] rfl (lies_block (heap_alloc_new _ _)) (by simp [Value.oneCell']) (by omega) HB2.out.size ?_; intro v9 w9 ho9 hg9 hv9)
                obtain ⟨A9, c9, rfl⟩ := own_formN ho9
                go_roundw
                case rel => exact ⟨kx, m + 1, c9, A9, V ++ [x], by have := hkk.out; omega, by have := hkk.out; omega, by rw [← hkk.out.2]; go_num, rfl, Lib.hid ⟨by rw [List.map_append]; exact ho9, HB2.out.trans (below_next HO2.out HB2.out.size hg9), by have h3 := HI2.out.2.2; rw [HWD.out, if_neg (by simp)] at h3; rw [List.append_assoc]; exact h3⟩⟩
                case measure => have := hkk.out; simp [intOf]; omega
        · obtain rfl : k = n1 := by omega
          have HV : Hid (V = wantR xs) := Lib.hid (by
            have h3 := HI.out.2.2
            rw [List.drop_of_length_le (by have := HXL.out; omega)] at h3
            simpa [wantR] using h3)
          have HOB := Lib.hid (HJ.out.1.below HI.out.2.1)
          have hvl : V.length = m := by have h3 := HI.out.1.1; simpa using h3
          obtain ⟨A', c', hA', hrd, -⟩ := own_rd HI.out.1
          injection hA' with q1 q2 q3
          subst q1
          have HST : Hid (Rd wr Aw m (V.map fun x : Nat => Value.int .i64 (x : Int)) ∧ ∀ o, Aw = some o → o.block ≠ b ∧ v.ownBlock ≠ some o.block ∧ o.block < wr.heap.size) := Lib.hid ⟨hrd, fun o ho => by
            have h5 : ∃ g, o = ⟨g, 0, none⟩ := by
              rcases HI.out.1.2 with ⟨hv, _⟩ | ⟨g, cap, cur, hv, _⟩
              · injection hv with hv1; rw [hv1] at ho; cases ho
              · injection hv with hv1; rw [hv1] at ho; cases ho; exact ⟨g, rfl⟩
            obtain ⟨g, rfl⟩ := h5
            have h6 := own_lt HI.out.1 g (by rw [ho]; rfl)
            have h7 := HJ.out.1.wh.lt
            refine ⟨by show g ≠ b; omega, fun e => ?_, h6.2⟩
            have := (HJ.out.1.wh.ne _ e).2
            dsimp only at this
            omega⟩
          have HVL := Lib.hid hvl
          clear hvl hrd q2 q3 HI
          go_wp2_with fail
          go_loopw [15] (fun iv wr => ∃ (s : Nat) (v : Value), s + 1 ≤ n ∧ iv = .int .i64 ((s : Int) + 1) ∧ Hid (Ow w wr b (s : Int) v M ∧ Rd wr Aw m (V.map fun x : Nat => Value.int .i64 (x : Int)) ∧ ∀ o, Aw = some o → o.block ≠ b ∧ v.ownBlock ≠ some o.block ∧ o.block < wr.heap.size)) (fun iv _ => n + 1 - (intOf iv).toNat)
          case atStart => exact ⟨0, v, by omega, rfl, Lib.hid ⟨HOB.out, HST.out⟩⟩
          case round =>
            obtain ⟨s, v, hsn, rfl, HI⟩ := hrel
            have hML : M.length ≤ 256 := by have := HJ.out.2.len; have := HXL.out; omega
            have HT := Lib.hid (HI.out.1.tick (t := s) hML (by omega))
            by_cases hlt : s + 1 < n
            · have d1 : decide ((s : Int) + 1 < (n : Int)) = true := by simp; omega
              obtain ⟨hno, hall⟩ := HJ.out.2.none hlt
              rw [hno, hall] at HT
              have hsn2 : s + 1 + 1 ≤ n := by omega
              clear hno hall hlt
              go_wp2_with fail
              refine HT.out.mono ?_
              rintro e w5 ⟨u, v', rfl, hu, how, -, hc, -⟩
              obtain ⟨A5, c5, rfl⟩ := own_formN hu
              have HN5 : Hid (Ow w w5 b ((s + 1 : Nat) : Int) v' M ∧ Rd w5 Aw m (V.map fun x : Nat => Value.int .i64 (x : Int)) ∧ ∀ o, Aw = some o → o.block ≠ b ∧ v'.ownBlock ≠ some o.block ∧ o.block < w5.heap.size) := Lib.hid ⟨how, HI.out.2.1.keep hc.keep (fun bb o e hm => by
                obtain ⟨h1, h2, -⟩ := HI.out.2.2 _ e
                rcases List.mem_cons.1 hm with h | h
                · exact h1 h
                · exact h2 (by simpa using h)), fun o ho => by
                obtain ⟨h1, h2, h3⟩ := HI.out.2.2 o ho
                refine ⟨h1, fun e => ?_, Nat.lt_of_lt_of_le h3 hc.keep.size⟩
                rcases hc.row with h | h
                · exact h2 (h ▸ e)
                · have := h _ e; omega⟩
              clear hu how hc
              go_wp2_with fail
              go_roundw
              case rel => exact ⟨s + 1, v', hsn2, by go_num, HN5⟩
              case measure => simp [intOf]; omega
            · have hse : s + 1 = n := by omega
              have d1 : decide ((s : Int) + 1 < (n : Int)) = false := by simp; omega
              rw [hse] at HT
              have hdue := HJ.out.2.due
              rw [← HV.out] at hdue
              obtain ⟨Dl, hDl⟩ : ∃ Dl, M.filter (fun p => p.2 == n) = Dl := ⟨_, rfl⟩
              obtain ⟨M', hM'⟩ : ∃ M', M.filter (fun p => !(p.2 == n)) = M' := ⟨_, rfl⟩
              rw [hDl, hM'] at HT
              rw [hDl] at hdue
              have hml : M'.length = xs.length := by rw [← hM']; exact HJ.out.2.d
              have hdl : Dl.length = m := by rw [← HVL.out, ← hdue, List.length_map]
              rw [hdl] at HT
              have hkv : (Dl.map fun p => kk p.1) = V.map kk := by rw [← hdue, List.map_map]; rfl
              rw [hkv] at HT
              have HML := Lib.hid hml
              clear hdue hDl hM' hml hdl hkv hse hlt hML
              go_wp2_with fail
              refine HT.out.mono ?_
              rintro e w5 ⟨u, v', rfl, hu, how, -, hc, hnil⟩
              obtain ⟨Ag, cg, hue, hrg, -, -⟩ := own_rdE hu encK_len (by rw [List.length_map]; exact HVL.out)
              have hrw : Rd w5 Aw m (V.map fun x : Nat => Value.int .i64 (x : Int)) := HI.out.2.1.keep hc.keep (fun bb o e hm => by
                obtain ⟨h1, h2, -⟩ := HI.out.2.2 _ e
                rcases List.mem_cons.1 hm with h | h
                · exact h1 h
                · exact h2 (by simpa using h))
              subst hue
              have HG := Lib.hid (And.intro hrg (And.intro hrw (And.intro how hnil)))
              have hm9 := hrg.2.1
              clear hu how hc hnil hrg hrw
              go_wp2_with fail
              go_loopw [99] (fun iv wr => ∃ j : Nat, j ≤ m ∧ iv = .int .i64 j ∧ Hid (Below w5.heap.size w5 wr)) (fun iv _ => m - (intOf iv).toNat)
              case atStart => exact ⟨0, by omega, rfl, Lib.hid (Below.refl _ _)⟩
              case round =>
                obtain ⟨j, hj, rfl, HB⟩ := hrel
                by_cases hjm : j < m
                · have hjv : j < V.length := by have := HVL.out; omega
                  obtain ⟨z, hz⟩ : ∃ z, V[j] = z := ⟨_, rfl⟩
                  obtain ⟨gb, go, hgA, e0, e1, e2, e3, e4, e5⟩ := key_at (HG.out.1.below HB.out) j hjm (by simpa using hjv) (kk z) (by rw [List.getElem_map, hz])
                  obtain ⟨wb, wo, hwA, hwc⟩ := (HG.out.2.1.below HB.out).2.2 (by omega)
                  have hw0 := hwc j hjm
                  rw [List.getElem?_map, List.getElem?_eq_getElem hjv, hz] at hw0
                  simp only [Option.map_some] at hw0
                  subst hgA hwA
                  dsimp only [kk] at e0 e1 e2 e3 e4 e5
                  have he : ∀ w, (Op.equalIn 10000 KT (.agg #[.int .i64 z, .int .i64 0, .int .i64 0, .int .i64 0, .int .i64 0, .int .i64 0]) (.agg #[.int .i64 z, .int .i64 0, .int .i64 0, .int .i64 0, .int .i64 0, .int .i64 0])).run Try.prog w = .ok true w := fun w => by
                    rw [key_eq]
                    simp
                  have hm := key_guard
                  have hjI : (j : Int) < (m : Int) := by omega
                  have d2 : decide ((m : Int) ≤ (j : Int)) = false := by simp; omega
                  have d2n : decide (m ≤ j) = false := by simp; omega
                  clear hwc hz hjv
                  go_wp2_with fail
                  go_quiet (fail)
                  go_wp2_with fail
                  go_roundw
                  case rel => exact ⟨j + 1, by omega, by go_num, Lib.hid (below2 HB.out (below_drewN _ _))⟩
                  case measure => simp [intOf]; omega
                · obtain rfl : j = m := by omega
                  have HOW5 := Lib.hid (HG.out.2.2.1.below HB.out)
                  cases hx0 : M' with
                  | nil =>
                    subst hx0
                    obtain rfl : v' = .slice none 0 0 := HG.out.2.2.2 rfl
                    have hn0 : k = 0 := by have := HML.out; have := HXL.out; simp at *; omega
                    have HK := Lib.hid (keysw_empty b _ wr HOW5.out.wh)
                    have q0 : ((k : Int) == 0) = true := by simp; omega
                    have q1 : (((0 : Nat) : Int) == (k : Int)) = true := by simp; omega
                    have q2 : ((0 : Int) == (k : Int)) = true := by simp; omega
                    go_wp2_with fail
                    refine HK.out.mono ?_
                    rintro e w7 ⟨A7, c7, rfl, hb7⟩
                    have HBF := Lib.hid (HOW5.out.bel.trans (hb7.mono HOW5.out.bel.size))
                    clear hb7
                    subst hn0
                    go_wp2_with fail
                    go_ret
                    exact ⟨rfl, HBF.out⟩
                  | cons p0 Mr =>
                    have hlen : (M'.map tmOf).length = k := by have := HML.out; have := HXL.out; rw [List.length_map]; omega
                    have hK := keysw_any b _ v' _ wr HOW5.out.wh (by rw [hlen, ← HXL.out, ← HML.out, hx0]; simp) (by rw [hlen]; omega)
                    rw [hlen] at hK
                    have HK := Lib.hid hK
                    clear hK hlen hx0
                    go_wp2_with fail
                    refine HK.out.mono ?_
                    rintro e w7 ⟨u7, rfl, hu7, hb7⟩
                    obtain ⟨A7, c7, rfl⟩ := own_formN hu7
                    have HBF := Lib.hid (HOW5.out.bel.trans (hb7.mono HOW5.out.bel.size))
                    clear hb7 hu7
                    go_wp2_with fail
                    go_ret
                    exact ⟨rfl, HBF.out⟩
end Go.Proofs.Ytbifmdepkbgnjaa.Wh

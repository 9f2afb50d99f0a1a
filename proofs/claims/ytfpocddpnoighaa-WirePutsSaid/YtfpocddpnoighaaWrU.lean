/- WirePuts: the walk. -/
import Derived.Test.YtfpocddpnoighaaWrT
namespace Go.Proofs.Ytfpocddpnoighaa.Wr
open Go.RowKit Go.Proofs.Ytfpocddpnoighaa.L Go.Proofs.Ytfpocddpnoighaa.O Go.Proofs.Ytfpocddpnoighaa.A Go.Proofs.Ytfpocddpnoighaa.S Go.Proofs.Ytfpocddpnoighaa.T Go.Proofs.Ytfpocddpnoighaa.E
set_option linter.unusedVariables false
set_option linter.unusedSimpArgs false

theorem own_form {w : World} {B : Nat} {e : TypeId} {size n : Nat} {v : Value} {xs : List Value} (h : w.ownsRow B e size v n xs) : ∃ A c, v = .slice A n c := by
  rcases h.2 with ⟨h, h0⟩ | ⟨g, cap, cur, h, _⟩
  · exact ⟨none, 0, by rw [h, h0]⟩
  · exact ⟨_, _, h⟩
theorem str_cat (a b : List UInt8) : str a ++ str b = str (a ++ b) := by
  apply ByteArray.ext
  simp [str]
set_option maxHeartbeats 8000000 in
set_option maxRecDepth 100000 in
theorem puts_walk (w : World) (A : Option Addr) (n ca : Nat) (l : List Th) (ha : Things w A n l) :
    Calls Try.prog 6 #[.slice A n ca] w fun e w' => e = .returned (.bool true) ∧ Below w.heap.size w w' := by
  have hna := ha.rd.2.1
  have HA := Lib.hid ha
  clear ha
  obtain ⟨ga, hga⟩ : ∃ g, Hid (longB l = g) := ⟨_, Lib.hid rfl⟩
  cases ga
  case true =>
    go_enter Try.func6, Try.ntmps6
    go_wp2_with fail
    refine (awake_any w).mono ?_
    rintro e w1 ⟨rfl, hb1⟩
    go_wp2_with fail
    refine (long_any w1 A n ca l (HA.out.below hb1) true hga.out).mono ?_
    rintro e w2 ⟨rfl, hb2⟩
    go_wp2
    go_ret
    exact ⟨rfl, below2 hb1 hb2⟩
  go_enter Try.func6, Try.ntmps6
  go_wp2_with fail
  refine (awake_any w).mono ?_
  rintro e w1 ⟨rfl, hb1⟩
  go_wp2_with fail
  refine (long_any w1 A n ca l (HA.out.below hb1) false hga.out).mono ?_
  rintro e w3 ⟨rfl, hb2⟩
  have hb03 := Lib.hid (below2 hb1 hb2)
  have HA3 := Lib.hid (HA.out.below hb03.out)
  have hlen := Lib.hid HA3.out.len
  obtain ⟨hga1, hga2⟩ : Hid (l.length ≤ 100) ∧ Hid (tot l ≤ 200000) := by
    have := hga.out
    simp only [longB, Bool.or_eq_false_iff, decide_eq_false_iff_not] at this
    exact ⟨Lib.hid (by omega), Lib.hid (by omega)⟩
  have hn100 : n ≤ 100 := by rw [← hlen.out]; exact hga1.out
  obtain ⟨b, hb⟩ : ∃ b, Hid (w3.heap.size = b) := ⟨_, Lib.hid rfl⟩
  obtain ⟨W0, hW0⟩ : ∃ W0, Hid (w3.alloc (.cells #[.pointer none, .slice none 0 0, .bool false] 30) = W0) := ⟨_, Lib.hid rfl⟩
  have H0 : Hid (PW w3 W0 [] b [] false (.slice none 0 0) 0 []) := Lib.hid (by
    have hw := wr_new w3 30 (.inl rfl)
    rw [hW0.out, hb.out] at hw
    refine ⟨by rw [← hW0.out]; exact below_alloc _ _, World.ownsRow_nil _ _ _ _, none, hw, fun k hk => ?_, by simp⟩
    rw [mem_blks] at hk
    simp at hk
    subst hk
    exact ⟨Nat.le_of_eq hb.out, by simp [Value.ownBlock]⟩)
  clear hb1 hb2 HA
  go_wp2_with fail
  rw [hW0.out, hb.out]
  go_loopw [4, 5, 6, 25] (fun wt bd kp i wr => ∃ k : Nat, k ≤ n ∧ i = .int .i64 k ∧ wt = .string (str (wireB (l.take k))) ∧ bd = .bool (wireBad (l.take k)) ∧ PW w3 wr [] b (wireB (l.take k)) (wireBad (l.take k)) kp k (encTs (l.take k)) ∧ Hid (∀ x ∈ l.take k, 0 ≤ x.k ∧ x.k ≤ 4)) (fun _ _ _ i _ => n - (intOf i).toNat)
  case atStart => exact ⟨0, by omega, rfl, by simp [wireB, str], by simp [wireBad], by simpa [wireB, wireBad, encTs] using H0.out, Lib.hid (by simp)⟩
  case round =>
    obtain ⟨k, hk, rfl, rfl, rfl, hP, hks⟩ := hrel
    by_cases hlt : k < n
    · obtain ⟨ab, ao, x, hAe, ⟨hkl, hx⟩, hg, c0, c1, c2⟩ := (HA3.out.below hP.low).at k hlt
      subst hAe
      have hl1 := Lib.hid (len_wire_take l k hkl hga1.out hga2.out)
      have hw1 := Lib.hid (wireB_take l k hkl)
      have hw2 := Lib.hid (wireBad_take l k hkl)
      have hw3 := Lib.hid (encTs_take l k hkl)
      have hks1 : Hid (0 ≤ x.k ∧ x.k ≤ 4 → ∀ y ∈ l.take (k + 1), 0 ≤ y.k ∧ y.k ≤ 4) := Lib.hid (by
        intro hxk y hy
        rw [List.take_succ_eq_append_getElem hkl, List.mem_append, List.mem_singleton] at hy
        rcases hy with hy | rfl
        · exact hks.out y hy
        · rw [hx]; exact hxk)
      rw [hx] at hl1 hw1 hw2 hw3
      have HG := Lib.hid hg
      obtain ⟨xk, xn, xs⟩ := x
      dsimp only at c0 c1 c2 hl1 hks1
      obtain ⟨bs, hbs⟩ : ∃ bs, Hid (wireB (l.take k) = bs) := ⟨_, Lib.hid rfl⟩
      obtain ⟨bd, hbd⟩ : ∃ bd, Hid (wireBad (l.take k) = bd) := ⟨_, Lib.hid rfl⟩
      obtain ⟨ws, hws⟩ : ∃ ws, Hid (str (wireB (l.take k)) = ws) := ⟨_, Lib.hid rfl⟩
      rw [hbs.out] at hl1 hw1
      rw [hbd.out] at hw2
      rw [hbs.out, hbd.out] at hP
      rw [hws.out, hbd.out]
      obtain ⟨gb, hgb⟩ : ∃ gb, Hid (wr.heap.size = gb) := ⟨_, Lib.hid rfl⟩
      obtain ⟨W1, hW1⟩ : ∃ W1, Hid (wr.alloc (.cells #[.int .i64 xk, .int .i64 xn, .string xs] 32) = W1) := ⟨_, Lib.hid rfl⟩
      have hP1 := hP.lay (.cells #[.int .i64 xk, .int .i64 xn, .string xs] 32)
      rw [hW1.out, hgb.out] at hP1
      have HP1 := Lib.hid hP1
      clear hP hP1 hx hg hks
      by_cases hlo : xk < 0
      · go_wp2
        rw [hW1.out]
        go_ret
        exact ⟨rfl, below2 hb03.out HP1.out.low⟩
      by_cases hhi : 4 < xk
      · go_wp2
        rw [hW1.out]
        go_ret
        exact ⟨rfl, below2 hb03.out HP1.out.low⟩
      have hks2 := Lib.hid (hks1.out ⟨by omega, by omega⟩)
      have HC := Lib.hid (HP1.out.write (fun r h1 => put_any b r _ _ ⟨xk, xn, xs⟩ W1 h1 (by have := hl1.out; dsimp only at this ⊢; omega)))
      clear hks1
      go_wp2_with fail
      rw [hW1.out, hgb.out]
      refine HC.out.mono ?_
      rintro e W2 ⟨rfl, hP2⟩
      have HP2 := Lib.hid hP2
      have hb2 := hP2.got (g := gb) (by simp; rfl)
      obtain ⟨d0, d1, d2⟩ := th_cells hb2
      have HC2 := Lib.hid (put_ref ⟨xk, xn, xs⟩ (by omega) (by omega) HG.out W2)
      obtain ⟨pb, hpb⟩ : ∃ pb, Hid (putB ⟨xk, xn, xs⟩ = pb) := ⟨_, Lib.hid rfl⟩
      obtain ⟨pk, hpk⟩ : ∃ pk, Hid (putOk ⟨xk, xn, xs⟩ = pk) := ⟨_, Lib.hid rfl⟩
      obtain ⟨sb, hsb⟩ : ∃ sb, Hid ((⟨pb.toArray⟩ : ByteArray) = sb) := ⟨_, Lib.hid rfl⟩
      simp only [putV] at HC2
      rw [hpb.out, hpk.out, hsb.out] at HC2
      rw [hpb.out] at hw1
      rw [hpk.out] at hw2
      have hsz1 : Hid (ws.size ≤ 201000) := Lib.hid (by rw [← hws.out, str_size, hbs.out]; have := hl1.out; omega)
      have hsz2 : Hid (sb.size ≤ 201000) := Lib.hid (by
        rw [← hsb.out]
        show (str pb).size ≤ _
        rw [str_size, ← hpb.out]
        have h1 := len_put ⟨xk, xn, xs⟩
        have h2 := hl1.out
        dsimp only at h1 h2
        omega)
      have hcat : ws.size + sb.size ≤ 402000 := by have := hsz1.out; have := hsz2.out; omega
      have hnew : Hid (ws ++ sb = str (wireB (l.take (k + 1)))) := Lib.hid (by
        rw [hw1.out, ← hws.out, ← hsb.out, hbs.out]
        exact str_cat _ _)
      clear hP2 hb2 HC HP1
      go_wp2_with fail
      refine HC2.out.mono ?_
      rintro e W3 ⟨rfl, hb3⟩
      have HP3 := Lib.hid (HP2.out.below hb3)
      have hx3 := HP3.out.got (g := gb) (by simp; rfl)
      obtain ⟨e0, e1, e2⟩ := th_cells hx3
      have hrow := HP3.out.row
      have hbase : w3.heap.size ≤ (W3.alloc (.cells #[.int .i64 xk, .int .i64 xn, .string xs] 32)).heap.size := by have := HP3.out.low.size; simp; omega
      clear hx3 hb3 HC2 d0 d1 d2
      cases bd
      case true =>
        go_wp2_with (at_builtin; refine wpList_append_src _ rfl (.tmp 52) (.tmp 54) w3.heap.size 22 32 (.agg #[.int .i64 0, .int .i64 0, .string ⟨#[]⟩]) 3 32 rfl (by kernel_rfl) (by kernel_rfl) rfl (by decide) (by decide) u6 k _ rfl (hrow.alloc _) (some ⟨W3.heap.size, 0, none⟩) 1 1 rfl (fun h => by cases h) [.int .i64 xk, .int .i64 xn, .string xs] rfl (lies_block (heap_alloc_new _ _)) (by simp [Value.oneCell']) (by omega) hbase ?_; intro v2 W4 ho2 hg2 hv2)
        have hfin : Hid (PW w3 W4 [] b (wireB (l.take (k + 1))) (wireBad (l.take (k + 1))) v2 (k + 1) (encTs (l.take (k + 1)))) := Lib.hid (by
          have h5 := ((HP3.out.below (below_alloc _ _)).append ho2 hg2 hv2).drop
          rw [hpb.out, hpk.out] at h5
          rw [hw1.out, hw2.out, hw3.out]
          exact h5)
        clear ho2 hg2 hv2
        go_roundw
        case rel => exact ⟨k + 1, by omega, by go_num, by rw [hnew.out], by rw [hw2.out]; first | rfl | simp, hfin.out, hks2⟩
        case measure => simp [intOf]; omega
      case false =>
        go_wp2_with (at_builtin; refine wpList_append_src _ rfl (.tmp 52) (.tmp 54) w3.heap.size 22 32 (.agg #[.int .i64 0, .int .i64 0, .string ⟨#[]⟩]) 3 32 rfl (by kernel_rfl) (by kernel_rfl) rfl (by decide) (by decide) u6 k _ rfl (hrow.alloc _) (some ⟨W3.heap.size, 0, none⟩) 1 1 rfl (fun h => by cases h) [.int .i64 xk, .int .i64 xn, .string xs] rfl (lies_block (heap_alloc_new _ _)) (by simp [Value.oneCell']) (by omega) hbase ?_; intro v2 W4 ho2 hg2 hv2)
        have hfin : Hid (PW w3 W4 [] b (wireB (l.take (k + 1))) (wireBad (l.take (k + 1))) v2 (k + 1) (encTs (l.take (k + 1)))) := Lib.hid (by
          have h5 := ((HP3.out.below (below_alloc _ _)).append ho2 hg2 hv2).drop
          rw [hpb.out, hpk.out] at h5
          rw [hw1.out, hw2.out, hw3.out]
          exact h5)
        clear ho2 hg2 hv2
        go_roundw
        case rel => exact ⟨k + 1, by omega, by go_num, by rw [hnew.out], by rw [hw2.out]; first | rfl | simp, hfin.out, hks2⟩
        case measure => simp [intOf]; omega
    · rw [List.take_of_length_le (by have := hlen.out; omega)] at hP hks ⊢
      have hkn : k = n := by omega
      subst hkn
      obtain ⟨bd, hbd⟩ : ∃ bd, Hid (wireBad l = bd) := ⟨_, Lib.hid rfl⟩
      obtain ⟨ws, hws⟩ : ∃ ws, Hid (str (wireB l) = ws) := ⟨_, Lib.hid rfl⟩
      rw [hbd.out] at hP
      rw [hbd.out, hws.out]
      obtain ⟨r, hF, hge⟩ := hP.f
      have HF := Lib.hid hF
      have HGE := Lib.hid hge
      have HP := Lib.hid hP
      have hlb : Hid ((wireB l).length ≤ 201000) := Lib.hid (by have := len_wire l; have := hga1.out; have := hga2.out; omega)
      clear hP hF hge
      cases bd
      case true =>
        have HS := Lib.hid (string_any b r (wireB l) true wr HF.out (by have := hlb.out; omega))
        rw [show saysB (wireB l) true = ⟨#[]⟩ from rfl] at HS
        go_wp2_with fail
        refine (bad_any b r _ true wr HF.out).mono ?_
        rintro e W1 ⟨rfl, rfl⟩
        go_wp2_with fail
        refine HS.out.mono ?_
        rintro e W2 ⟨rfl, _, hk2⟩
        go_wp2
        go_ret
        exact ⟨rfl, below2 hb03.out (HP.out.low.trans (hk2.below HP.out.low.size fun x hx => (HGE.out x (sub_blks hx)).1))⟩
      case false =>
        have HS := Lib.hid (string_any b r (wireB l) false wr HF.out (by have := hlb.out; omega))
        rw [show saysB (wireB l) false = str (wireB l) from rfl, hws.out] at HS
        go_wp2_with fail
        refine (bad_any b r _ false wr HF.out).mono ?_
        rintro e W1 ⟨rfl, rfl⟩
        go_wp2_with fail
        refine HS.out.mono ?_
        rintro e W2 ⟨rfl, _, hk2⟩
        have hrow2 := Lib.hid (own_keep HP.out.row hk2 fun x hx hm => (HGE.out x (sub_blks hm)).2 hx)
        have hlow2 := Lib.hid (HP.out.low.trans (hk2.below HP.out.low.size fun x hx => (HGE.out x (sub_blks hx)).1))
        clear hk2 HS
        go_wp2_with fail
        refine (newreader_any ws W2).mono ?_
        rintro e W3 ⟨rfl, hw3⟩
        obtain ⟨br, hbr⟩ : ∃ br, Hid (W2.heap.size = br) := ⟨_, Lib.hid rfl⟩
        obtain ⟨A6, c6, rfl⟩ := own_form hrow2.out
        have hRK : Hid (RK w3 W3 [] br ws false (.slice A6 k c6) k (encTs l)) := Lib.hid (by
          have hb23 : Below W2.heap.size W2 W3 := by rw [← hw3]; exact below_alloc _ _
          have hr3 := rdr_new W2 ws
          rw [hw3, hbr.out] at hr3
          exact ⟨below2 hlow2.out hb23, hr3, by rw [← hbr.out]; exact hlow2.out.size, own_kept hrow2.out hb23, fun e => by have := (hrow2.out.lt _ e).2; have := hbr.out; omega, by simp⟩)
        rw [hbr.out]
        clear hw3
        have hm := th_guard
        have hok : Hid (∀ x ∈ l, putOk x = true) := Lib.hid (by
          intro x hx
          have := hbd.out
          simp only [wireBad, List.any_eq_false] at this
          simpa using this x hx)
        go_wp2_with fail
        go_loopw [73] (fun i wr => ∃ j : Nat, j ≤ k ∧ i = .int .i64 j ∧ RK w3 wr [] br (str (wireB (l.drop j))) false (.slice A6 k c6) k (encTs l)) (fun i _ => k - (intOf i).toNat)
        case atStart => exact ⟨0, by omega, rfl, by rw [List.drop_zero, hws.out]; exact hRK.out⟩
        case round =>
          obtain ⟨j, hj, rfl, hR⟩ := hrel
          by_cases hjlt : j < k
          · have hjl : j < l.length := by have := hlen.out; omega
            obtain ⟨x, hx⟩ : ∃ x, l[j] = x := ⟨_, rfl⟩
            have hxl : x ∈ l := by rw [← hx]; exact List.getElem_mem _
            obtain ⟨g, c, hv, c0, c1, c2⟩ := hR.cells j hjlt hjl x hx
            injection hv with hv1 _ hv2
            subst hv1; subst hv2
            obtain ⟨hx0, hx4⟩ := hks.out x hxl
            have hxok := hok.out x hxl
            have hxg := HA3.out.good x hxl
            obtain ⟨kk, hkk⟩ : ∃ kk : Nat, x.k = kk := ⟨x.k.toNat, by omega⟩
            obtain ⟨N, T, hra1, hra2⟩ := read_again x hx0 hx4 hxok kk hkk
            have hdrop : Hid (wireB (l.drop j) = putB x ++ wireB (l.drop (j + 1))) := Lib.hid (by
              rw [List.drop_eq_getElem_cons hjl, hx]; simp [wireB])
            have hra := hra2 (wireB (l.drop (j + 1)))
            rw [hdrop.out] at hR
            have hsz : Hid ((str (putB x ++ wireB (l.drop (j + 1)))).size ≤ 201000) := Lib.hid (by
              rw [← hdrop.out, str_size]
              have h1 := len_wire (l.drop j)
              have h2 := tot_app (l.take j) (l.drop j)
              rw [List.take_append_drop] at h2
              have h3 := hga1.out
              have h4 := hga2.out
              simp only [List.length_drop] at h1
              omega)
            have hpl : Hid ((str (putB x)).size ≤ 201000) := Lib.hid (by
              have := hsz.out
              rw [str_size, List.length_append] at this
              rw [str_size]
              omega)
            obtain ⟨xk, xn, xs⟩ := x
            dsimp only at hkk c0 c1 c2 hx0 hx4
            subst hkk
            obtain ⟨gb, hgb⟩ : ∃ gb, Hid (wr.heap.size = gb) := ⟨_, Lib.hid rfl⟩
            obtain ⟨W4, hW4⟩ : ∃ W4, Hid (wr.alloc (.cells #[.int .i64 kk, .int .i64 xn, .string xs] 32) = W4) := ⟨_, Lib.hid rfl⟩
            have hR4 := hR.lay (.cells #[.int .i64 kk, .int .i64 xn, .string xs] 32)
            rw [hW4.out, hgb.out] at hR4
            have HC := Lib.hid (hR4.read (fun hrd => get_read kk (by omega) br _ false (by have := hsz.out; omega) W4 hrd _ hra))
            dsimp only at HC
            have HPR := Lib.hid (fun W => put_ref ⟨(kk : Int), xn, xs⟩ hx0 hx4 hxg W)
            have HGR := Lib.hid (fun W => get_ref kk (by omega) (str (putB ⟨(kk : Int), xn, xs⟩)) (by have := hpl.out; omega) W _ (by unfold refV; rw [hra1]))
            dsimp only at HGR
            have heq := th_refl kk N T
            simp only [putV] at HPR
            obtain ⟨pb, hpb⟩ : ∃ pb, Hid (str (putB ⟨(kk : Int), xn, xs⟩) = pb) := ⟨_, Lib.hid rfl⟩
            obtain ⟨pk, hpk⟩ : ∃ pk, Hid (putOk ⟨(kk : Int), xn, xs⟩ = pk) := ⟨_, Lib.hid rfl⟩
            rw [hpb.out] at HGR
            rw [show ({ data := (putB ⟨(kk : Int), xn, xs⟩).toArray } : ByteArray) = pb from hpb.out, hpk.out] at HPR
            clear hR hR4 hra hra1 hra2 hx hx0 hx4 hxok hxg hxl
            go_wp2_with fail
            rw [hW4.out, hgb.out]
            refine HC.out.mono ?_
            rintro e W5 ⟨rfl, hR5⟩
            obtain ⟨g2, hg2⟩ : ∃ g2, Hid (W5.heap.size = g2) := ⟨_, Lib.hid rfl⟩
            have HR6 := Lib.hid (hR5.lay (.cells #[.int .i64 kk, .int .i64 N, .string T] 32))
            have hx5 : W5.heap[gb]? = some (.cells #[.int .i64 kk, .int .i64 xn, .string xs] 32 (0, 0)) := hR5.got (by simp)
            obtain ⟨z0, z1, z2⟩ := th_cells hx5
            have z0' : ∀ o, (W5.alloc o).cell? ⟨gb, 0, none⟩ = some (.int .i64 kk) := fun o => cell_below (below_alloc W5 o) z0
            have z1' : ∀ o, (W5.alloc o).cell? ⟨gb, 1, none⟩ = some (.int .i64 xn) := fun o => cell_below (below_alloc W5 o) z1
            have z2' : ∀ o, (W5.alloc o).cell? ⟨gb, 2, none⟩ = some (.string xs) := fun o => cell_below (below_alloc W5 o) z2
            obtain ⟨W6, hW6⟩ : ∃ W6, Hid (W5.alloc (.cells #[.int .i64 kk, .int .i64 N, .string T] 32) = W6) := ⟨_, Lib.hid rfl⟩
            rw [hW6.out, hg2.out] at HR6
            have HP6 := Lib.hid (HPR.out W6)
            clear hR5 hx5 z0 z1 z2 HC
            go_wp2_with fail
            rw [hW6.out, hg2.out]
            refine HP6.out.mono ?_
            rintro e W7 ⟨rfl, hb7⟩
            have HR7 := Lib.hid (HR6.out.below hb7)
            have hx7 : W7.heap[gb]? = some (.cells #[.int .i64 kk, .int .i64 xn, .string xs] 32 (0, 0)) := HR7.out.got (by simp)
            obtain ⟨y0, y1, y2⟩ := th_cells hx7
            have HG7 := Lib.hid (HGR.out W7)
            clear hb7 hx7 z0' z1' z2' HP6
            go_wp2_with fail
            refine HG7.out.mono ?_
            rintro e W8 ⟨rfl, hb8⟩
            have HR8 := Lib.hid (HR7.out.below hb8)
            have hx8 : W8.heap[g2]? = some (.cells #[.int .i64 kk, .int .i64 N, .string T] 32 (0, 0)) := HR8.out.got (by simp)
            obtain ⟨v0, v1, v2⟩ := th_cells hx8
            have v0' : ∀ o, (W8.alloc o).cell? ⟨g2, 0, none⟩ = some (.int .i64 kk) := fun o => cell_below (below_alloc W8 o) v0
            have v1' : ∀ o, (W8.alloc o).cell? ⟨g2, 1, none⟩ = some (.int .i64 N) := fun o => cell_below (below_alloc W8 o) v1
            have v2' : ∀ o, (W8.alloc o).cell? ⟨g2, 2, none⟩ = some (.string T) := fun o => cell_below (below_alloc W8 o) v2
            have HR9 := Lib.hid ((HR8.out.below (below_alloc W8 (.cells #[.int .i64 kk, .int .i64 N, .string T] 32))).drop)
            clear hb8 hx8 v0 v1 v2 HG7 y0 y1 y2
            go_wp2
            go_roundw
            case rel => exact ⟨j + 1, by omega, by go_num, HR9.out⟩
            case measure => simp [intOf]; omega
          · have hjk : j = l.length := by have := hlen.out; omega
            have hR' := hR
            rw [hjk, List.drop_length] at hR'
            have HR := Lib.hid hR'
            clear hR hR'
            go_wp2_with fail
            refine (end_any br (str (wireB [])) false wr HR.out.rd 0 rfl).mono ?_
            rintro e W1 ⟨rfl, rfl⟩
            go_wp2_with fail
            refine (left_any br (str (wireB [])) false wr HR.out.rd 0 rfl).mono ?_
            rintro e W1 ⟨rfl, rfl⟩
            go_wp2
            go_ret
            exact ⟨rfl, below2 hb03.out HR.out.low⟩
theorem puts_row (w : World) (s : Sl Th) (hs : SlOk w 3 32 encTh goodTh s) :
    Calls Try.prog 6 #[.slice s.A s.n s.c] w fun e w' => e = .returned (.bool true) ∧ Below w.heap.size w w' :=
  puts_walk w s.A s.n s.c s.xs (things_of hs)
end Go.Proofs.Ytfpocddpnoighaa.Wr

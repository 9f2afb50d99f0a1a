/- net: the law NetOrder. -/
import Derived.Test.YtbdcgfdchkbcnaaNeH
import Derived.Test.YtbdcgfdchkbcnaaD
import Derived.Test.YtbdcgfdchkbcnaaZ
namespace Go.Proofs.Ytbdcgfdchkbcnaa.Ne
open Go.RowKit Go.Proofs.Ytbdcgfdchkbcnaa.L Go.Proofs.Ytbdcgfdchkbcnaa.O Go.Proofs.Ytbdcgfdchkbcnaa.R Go.Proofs.Ytbdcgfdchkbcnaa.A Go.Proofs.Ytbdcgfdchkbcnaa.S Go.Proofs.Ytbdcgfdchkbcnaa.T Go.Proofs.Ytbdcgfdchkbcnaa.C Go.Proofs.Ytbdcgfdchkbcnaa.G Go.Proofs.Ytbdcgfdchkbcnaa.E
set_option linter.unusedVariables false
set_option linter.unusedSimpArgs false

theorem Below.of_drew {B : Nat} {w w' : World} (h : Below B w.drew w') : Below B w w' := ⟨h.os, h.tape, h.output, h.size, h.block⟩
theorem pk_eqv (d : Nat) (a b : Int) (s : ByteArray) (q : Bool) (w : World) : (Op.equalIn (d + 4) PT (.agg #[.int .i64 a, .int .i64 b, .string s, .bool q]) (.agg #[.int .i64 a, .int .i64 b, .string s, .bool q])).run Try.prog w = .ok true w := by
  have hp : Try.prog.stoodInHeld PT = false := by kernel_rfl
  have hf : Try.prog.underlying PT = some (.struct (Try.prog.fieldsOf PT)) := by kernel_rfl
  rw [run_equalIn_agg w _ _ _ _ hf hp]
  clear hf hp
  go_simp
theorem pk_eq (a b : Int) (s : ByteArray) (q : Bool) (w : World) : (Op.equalIn 10000 PT (.agg #[.int .i64 a, .int .i64 b, .string s, .bool q]) (.agg #[.int .i64 a, .int .i64 b, .string s, .bool q])).run Try.prog w = .ok true w := pk_eqv 9996 a b s q w
def NF : Int → Int → Bool := fun _ _ => false
/-- the net, with packets Ls under way, and the list u of what was sent. -/
structure Od (w0 W : World) (b mb : Nat) (u : Value) (Ls Rs : List Pkt) : Prop where
  nt : ∃ v, Nt W b mb 16 0 NF v (Ls.flatMap encP) Ls.length ∧ ∀ k, u.ownBlock = some k → v.ownBlock ≠ some k
  own : W.ownsRow w0.heap.size PT 4 u Rs.length (Rs.flatMap encP)
  ub : u.ownBlock ≠ some b ∧ u.ownBlock ≠ some mb
  base : w0.heap.size ≤ mb
  bel : Below w0.heap.size w0 W
section
variable {w0 W W' : World} {b mb : Nat} {u : Value} {Ls Ls' Rs : List Pkt}
theorem Od.below (h : Od w0 W b mb u Ls Rs) (hb : Below W.heap.size W W') : Od w0 W' b mb u Ls Rs := by
  obtain ⟨v, hn, hs⟩ := h.nt
  exact ⟨⟨v, hn.below hb, hs⟩, own_kept h.own hb, h.ub, h.base, h.bel.trans (hb.mono h.bel.size)⟩
theorem Od.goes {v : Value} (h : Od w0 W b mb u Ls Rs) (hn : Nt W b mb 16 0 NF v (Ls.flatMap encP) Ls.length) (hs : ∀ k, u.ownBlock = some k → v.ownBlock ≠ some k) (hg : GoesN b mb 16 0 NF v (Ls'.flatMap encP) Ls'.length W W') : Od w0 W' b mb u Ls' Rs := by
  have hbl := goesN_below hn (B := w0.heap.size) (by have := hn.mb; have := h.base; omega) h.bel.size hg
  obtain ⟨v', hn', hk, hr⟩ := hg
  refine ⟨⟨v', hn', fun k hk' hv => ?_⟩, own_keep h.own hk (fun k hk' hm => ?_), h.ub, h.base, h.bel.trans hbl⟩
  · rcases hr with e | e
    · exact hs k hk' (e ▸ hv)
    · have := (own_lt h.own k hk').2
      have := e k hv
      omega
  · rcases List.mem_cons.1 hm with e | hm
    · exact h.ub.1 (e ▸ hk')
    · exact hs k hk' (by simpa using hm)
theorem od_send (h : Od w0 W b mb u Ls Rs) (hl : Ls.length < 256) (p : Pkt) (hx : (Lit.int .i64 p.a).wf = true) (hy : (Lit.int .i64 p.b).wf = true) (g c : Nat)
    (c0 : W.cell? ⟨g, 0, none⟩ = some (.int .i64 p.a)) (c1 : W.cell? ⟨g, 0 + 1, none⟩ = some (.int .i64 p.b)) (c2 : W.cell? ⟨g, 0 + 2, none⟩ = some (.string p.s)) (c3 : W.cell? ⟨g, 0 + 3, none⟩ = some (.bool p.q)) (xb : Nat) (o : Obj) (hxo : W.heap[xb]? = some o) (hxb : b < xb) (hxv : ∀ v, Nt W b mb 16 0 NF v (Ls.flatMap encP) Ls.length → v.ownBlock ≠ some xb) :
    Calls Try.prog 17 #[.pointer (some ⟨b, 0, none⟩), .slice (some ⟨g, 0, none⟩) 1 c] W fun e w' => e = .returned (.int .i64 (if wholeB 16 NF p.a p.b then 0 else 1)) ∧ Od w0 w' b mb u (if wholeB 16 NF p.a p.b then Ls ++ [p] else Ls) Rs ∧ w'.heap[xb]? = some o := by
  obtain ⟨v, hn, hs⟩ := h.nt
  refine (send_one b mb 16 0 NF v _ Ls.length p.a p.b p.s p.q g 0 c W hn hl hx hy c0 c1 c2 c3).mono ?_
  rintro e w' ⟨rfl, hr⟩
  refine ⟨rfl, ?_⟩
  cases hq : wholeB 16 NF p.a p.b with
  | true =>
    rw [hq] at hr
    simp only [if_true] at hr ⊢
    have hk := hr.choose_spec.2.1
    refine ⟨h.goes hn hs (Ls' := Ls ++ [p]) (by rw [List.flatMap_append, List.length_append]; simpa [encP] using hr), keep_block hk hxo fun hm => ?_⟩
    rcases List.mem_cons.1 hm with e | hm
    · omega
    · exact hxv v hn (by simpa using hm)
  | false =>
    rw [hq] at hr
    simp only [Bool.false_eq_true, if_false] at hr ⊢
    exact ⟨h.below hr, (hr.block xb (Array.getElem?_eq_some_iff.1 hxo).1).trans hxo⟩
theorem od_take (h : Od w0 W b mb u Ls Rs) (hb : Below W.heap.size W W') (i : Nat) (hi : i < Ls.length) (hsm : Ls.length ≤ 256) (xb : Nat) (hxb : W.heap.size ≤ xb) (o : Obj) (hx : W'.heap[xb]? = some o) :
    Calls Try.prog 19 #[.pointer (some ⟨b, 0, none⟩), .int .i64 i] W' fun e w' => e = .returned (.tuple #[.agg #[.int .i64 Ls[i].a, .int .i64 Ls[i].b, .string Ls[i].s, .bool Ls[i].q], .int .i64 0]) ∧ Od w0 w' b mb u (Ls.eraseIdx i) Rs ∧ w'.heap[xb]? = some o := by
  obtain ⟨v, hn, hs⟩ := h.nt
  have hn' := hn.below hb
  have hlt := (Array.getElem?_eq_some_iff.1 hn.blk).1
  refine (take_ok b mb 16 0 NF v Ls i W' hn' hi hsm).mono ?_
  rintro e w' ⟨rfl, hg⟩
  have hl : Ls.length - 1 = (Ls.eraseIdx i).length := by rw [List.length_eraseIdx, if_pos hi]
  rw [hl] at hg
  have hk := hg.choose_spec.2.1
  refine ⟨rfl, (h.below hb).goes hn' hs hg, keep_block hk hx fun hm => ?_⟩
  rcases List.mem_cons.1 hm with e | hm
  · omega
  · have := (own_lt hn.own xb (by simpa using hm)).2
    omega
theorem od_len (h : Od w0 W b mb u Ls Rs) (hb : Below W.heap.size W W') : Calls Try.prog 18 #[.pointer (some ⟨b, 0, none⟩)] W' fun e w' => e = .returned (.int .i64 Ls.length) ∧ W' = w' := by
  obtain ⟨v, hn, hs⟩ := h.nt
  exact len_any b 16 mb 0 NF v _ _ W' (hn.below hb)
theorem Od.push {u' : Value} {p : Pkt} (h : Od w0 W b mb u Ls Rs) (hg : W.grownBy W' u.ownBlock) (hu : u'.ownBlock = u.ownBlock ∨ u'.ownBlock = some W.heap.size) (ho : W'.ownsRow w0.heap.size PT 4 u' (Rs.length + 1) (Rs.flatMap encP ++ encP p)) : Od w0 W' b mb u' Ls (Rs ++ [p]) := by
  obtain ⟨v, hn, hs⟩ := h.nt
  have hk : Keep u.ownBlock.toList W W' := keep_grown hg _ (fun j hj _ => by simp [hj])
  have hb' : b ∉ u.ownBlock.toList := fun hm => h.ub.1 (by simpa using hm)
  have hmb' : mb ∉ u.ownBlock.toList := fun hm => h.ub.2 (by simpa using hm)
  have hlt := (Array.getElem?_eq_some_iff.1 hn.blk).1
  have hml := hn.map.lt
  refine ⟨⟨v, ⟨keep_block hk hn.blk hb', own_keep hn.own hk (fun k hk' hm => hs k (by simpa using hm) hk'), hn.map.keep hk hmb', hn.mb⟩, fun k hk' hv => ?_⟩, by rw [List.length_append, List.flatMap_append]; simpa using ho, ⟨fun hh => ?_, fun hh => ?_⟩, h.base, h.bel.trans (hk.below h.bel.size fun x hx => (own_lt h.own x (by simpa using hx)).1)⟩
  · rcases hu with e | e
    · exact hs k (e ▸ hk') hv
    · rw [e] at hk'; cases hk'; have := (own_lt hn.own _ hv).2; omega
  · rcases hu with e | e
    · exact h.ub.1 (e ▸ hh)
    · rw [e] at hh; cases hh; omega
  · rcases hu with e | e
    · exact h.ub.2 (e ▸ hh)
    · rw [e] at hh; cases hh; omega
end
theorem order_fst (Rs : List Pkt) (j : Nat) (hj : j < Rs.length) : ∃ h0 : 0 < (Rs.drop j).length, (Rs.drop j)[0] = Rs[j] ∧ (Rs.drop j).eraseIdx 0 = Rs.drop (j + 1) := by
  refine ⟨by rw [List.length_drop]; omega, by rw [List.getElem_drop]; simp, ?_⟩
  rw [List.drop_eq_getElem_cons hj]
  rfl
theorem order_lst (Rs : List Pkt) (r : Nat) (hr : r < Rs.length) : ∃ h0 : r < (Rs.take (r + 1)).length, (Rs.take (r + 1))[r] = Rs[r] ∧ (Rs.take (r + 1)).eraseIdx r = Rs.take r := by
  refine ⟨by rw [List.length_take]; omega, by rw [List.getElem_take], ?_⟩
  rw [List.eraseIdx_eq_take_drop_succ, List.take_take, Nat.min_eq_left (by omega), List.drop_eq_nil_of_le (by rw [List.length_take]; omega), List.append_nil]
set_option maxHeartbeats 16000000 in
set_option maxRecDepth 100000 in
theorem order_walk (w : World) (A : Option Addr) (n c : Nat) (ps : List Pkt) (back : Bool) (hrd : RdE w A n 4 (ps.map encP)) (hgd : ∀ p ∈ ps, goodP p) : Calls Try.prog 3 #[.slice A n c, .bool back] w fun e w' => e = .returned (.bool true) ∧ Below w.heap.size w w' := by
  have hn9 := hrd.2.1
  have HRD := Lib.hid hrd
  have HL : Hid (ps.length = n) := Lib.hid (by have := hrd.1; simpa using this)
  have HGD := Lib.hid hgd
  have HA := Lib.hid (awake_any w)
  clear hrd hgd
  by_cases hbig : 256 < n
  · have hd : decide ((256 : Int) < (n : Int)) = true := by simp; omega
    go_enter Try.func3, Try.ntmps3
    go_wp2_with fail
    refine HA.out.mono ?_
    rintro e w1 ⟨rfl, hb1⟩
    go_wp2
    go_ret
    exact ⟨rfl, hb1⟩
  · have hd : decide ((256 : Int) < (n : Int)) = false := by simp; omega
    have hdn : decide (256 < n) = false := by simp; omega
    go_enter Try.func3, Try.ntmps3
    go_wp2_with fail
    refine HA.out.mono ?_
    rintro e w1 ⟨rfl, hb1⟩
    have HNW := Lib.hid (net_new 16 w1 (by decide) (by decide))
    have HB1 := Lib.hid hb1
    clear hb1
    go_wp2_with fail
    refine HNW.out.mono ?_
    rintro e w2 ⟨rfl, hn2, hb2⟩
    obtain ⟨b, hb⟩ : ∃ b, w1.heap.size + 1 = b := ⟨_, rfl⟩
    obtain ⟨mb, hmb⟩ : ∃ mb, w1.heap.size = mb := ⟨_, rfl⟩
    rw [hb, hmb] at hn2
    rw [hb]
    have hs1 := HB1.out.size
    have HOD0 : Hid (Od w w2 b mb (.slice none 0 0) [] []) := Lib.hid ⟨⟨_, hn2, fun k hk => by cases hk⟩, ⟨by simp, .inl ⟨rfl, rfl⟩⟩, ⟨(by intro h; cases h), (by intro h; cases h)⟩, by omega, HB1.out.trans (hb2.mono hs1)⟩
    clear hn2 hb2 hb hmb hs1
    go_wp2_with fail
    clear hd hdn
    go_loopw [7, 28] (fun u i wr => ∃ (k : Nat) (Ls : List Pkt), k ≤ n ∧ i = .int .i64 k ∧ Od w wr b mb u Ls Ls ∧ Ls.length ≤ k) (fun _ i _ => n - (intOf i).toNat)
    case atStart => exact ⟨0, [], by omega, rfl, HOD0.out, by simp⟩
    case round =>
      obtain ⟨k, Ls, hkn, rfl, hod, hLk⟩ := hrel
      by_cases hlt : k < n
      · have hkl : k < ps.length := by have := HL.out; omega
        obtain ⟨p, hp⟩ : ∃ p : Pkt, Hid (ps[k] = p) := ⟨_, Lib.hid rfl⟩
        obtain ⟨ab, ao, hA, c0, c1, c2, c3⟩ := pkt_at (HRD.out.below hod.bel) k hlt hkl p hp.out
        subst hA
        have hgp := HGD.out p (by rw [← hp.out]; exact List.getElem_mem _)
        obtain ⟨xb, hxb⟩ : ∃ xb, Hid (wr.heap.size = xb) := ⟨_, Lib.hid rfl⟩
        obtain ⟨W1, hW1⟩ : ∃ W1, Hid (wr.alloc (.cells #[.int .i64 p.a, .int .i64 p.b, .string p.s, .bool p.q] PT) = W1) := ⟨_, Lib.hid rfl⟩
        have hb1 : Below wr.heap.size wr W1 := by rw [← hW1.out]; exact below_alloc _ _
        have hx1 : W1.heap[xb]? = some (.cells #[.int .i64 p.a, .int .i64 p.b, .string p.s, .bool p.q] PT (0, 0)) := by rw [← hW1.out, ← hxb.out]; exact heap_alloc_new _ _
        obtain ⟨W2, hW2⟩ : ∃ W2, Hid (W1.alloc (.cells #[.int .i64 p.a, .int .i64 p.b, .string p.s, .bool p.q] PT) = W2) := ⟨_, Lib.hid rfl⟩
        have hb2 : Below W1.heap.size W1 W2 := by rw [← hW2.out]; exact below_alloc _ _
        have hgs : Hid (W1.heap.size = xb + 1) := Lib.hid (by rw [← hW1.out, World.size_alloc, hxb.out])
        have hx2 := (hb2.block xb (Array.getElem?_eq_some_iff.1 hx1).1).trans hx1
        have hg2 : W2.heap[xb + 1]? = some (.cells #[.int .i64 p.a, .int .i64 p.b, .string p.s, .bool p.q] PT (0, 0)) := by rw [← hW2.out, ← hgs.out]; exact heap_alloc_new _ _
        have hod2 := (hod.below hb1).below hb2
        obtain ⟨e0, e1, e2, e3⟩ := pk_cells hg2
        have hbx : b < xb := by rw [← hxb.out]; obtain ⟨v, hv, _⟩ := hod.nt; exact (Array.getElem?_eq_some_iff.1 hv.blk).1
        have hvx : ∀ v, Nt W2 b mb 16 0 NF v (Ls.flatMap encP) Ls.length → v.ownBlock ≠ some xb := fun v hv hk => by
          have ho := hv.own
          obtain ⟨v', hv', _⟩ := hod.nt
          have e5 := (below2 hb1 hb2).block b (Array.getElem?_eq_some_iff.1 hv'.blk).1
          rw [hv'.blk, hv.blk] at e5
          injection e5 with e5
          injection e5 with e5
          have : v = v' := by simpa using e5
          subst this
          have := (own_lt hv'.own _ hk).2
          have := hxb.out
          omega
        have HSE := Lib.hid (od_send hod2 (by omega) p (Go.Proofs.Ytbdcgfdchkbcnaa.Ne.i64_wf hgp.1) (Go.Proofs.Ytbdcgfdchkbcnaa.Ne.i64_wf hgp.2.1) (xb + 1) 1 e0 e1 e2 e3 xb _ hx2 hbx hvx)
        have HODW := Lib.hid hod.bel
        have hus : Hid (Ls.length < 256) := Lib.hid (by omega)
        clear hod hb1 hx1 hb2 hx2 hg2 hod2 e0 e1 e2 e3 hbx hvx hgp hp
        obtain ⟨px, py, pS, pq⟩ := p
        dsimp only at c0 c1 c2 c3 HSE hW1 hW2
        obtain ⟨wq, hwq⟩ : ∃ wq, wholeB 16 NF px py = wq := ⟨_, rfl⟩
        rw [hwq] at HSE
        clear hwq
        cases wq with
        | false =>
          simp only [Bool.false_eq_true, if_false] at HSE
          go_wp2_with fail
          rw [hW1.out, hW2.out, hxb.out]
          refine HSE.out.mono ?_
          rintro e w3 ⟨rfl, hod3, hx3⟩
          have HOD3 := Lib.hid hod3
          clear hod3 hx3 c0 c1 c2 c3
          go_wp2_with fail
          go_roundw
          case rel => exact ⟨k + 1, Ls, by omega, by go_num, HOD3.out, by omega⟩
          case measure => simp [intOf]; omega
        | true =>
          simp only [if_true] at HSE
          go_wp2_with fail
          rw [hW1.out, hW2.out, hxb.out]
          refine HSE.out.mono ?_
          rintro e w3 ⟨rfl, hod3, hx3⟩
          clear c0 c1 c2 c3
          obtain ⟨c0, c1, c2, c3⟩ := pk_cells hx3
          obtain ⟨uA, uc, hu⟩ := own_form4 hod3.own
          obtain ⟨W4, hW4⟩ : ∃ W4, Hid (w3.alloc (.cells #[.int .i64 px, .int .i64 py, .string pS, .bool pq] PT) = W4) := ⟨_, Lib.hid rfl⟩
          have hb4 : Below w3.heap.size w3 W4 := by rw [← hW4.out]; exact below_alloc _ _
          have g4 : W4.heap[w3.heap.size]? = some (.cells #[.int .i64 px, .int .i64 py, .string pS, .bool pq] PT (0, 0)) := by rw [← hW4.out]; exact heap_alloc_new _ _
          have HOD4 := Lib.hid (hod3.below hb4)
          have HLI := Lib.hid (lies_block g4)
          have hu' := own_len hod3.own hu
          subst hu'
          clear hod3 hx3 hb4 g4 hu
          go_wp2_with (first | (at_builtin; rw [hW4.out]; refine wpList_append_src _ rfl (.tmp 37) (.tmp 39) w.heap.size 22 PT (.agg #[.int .i64 0, .int .i64 0, .string ⟨#[]⟩, .bool false]) 4 40 rfl (by kernel_rfl) (by kernel_rfl) rfl (by decide) (by decide) _ Ls.length (Ls.flatMap encP) rfl HOD4.out.own (some ⟨w3.heap.size, 0, none⟩) 1 1 rfl (fun h => by cases h) [.int .i64 px, .int .i64 py, .string pS, .bool pq] rfl HLI.out (by simp [Value.oneCell']) (by have := hus.out; omega) HOD4.out.bel.size ?_; intro v5 w5 ho5 hg5 hv5))
          go_roundw
          case rel => exact ⟨k + 1, Ls ++ [⟨px, py, pS, pq⟩], by omega, by go_num, HOD4.out.push (p := ⟨px, py, pS, pq⟩) hg5 hv5 ho5, by rw [List.length_append]; simp; omega⟩
          case measure => simp [intOf]; omega
      · obtain rfl : k = n := by omega
        obtain ⟨uA, uc, hu⟩ := own_form4 hod.own
        have hu' := own_len hod.own hu
        subst hu'
        obtain ⟨m, hm⟩ : ∃ m, Ls.length = m := ⟨_, rfl⟩
        have HMM := Lib.hid hm
        have hm9 : m ≤ 256 := by omega
        have HST : Hid (Od w wr b mb (.slice uA m uc) (if back then Ls.take (m - 0) else Ls.drop 0) Ls) := Lib.hid (by
          have e : (if back then Ls.take (m - 0) else Ls.drop 0) = Ls := by cases back <;> simp [← hm]
          rw [e, ← hm]
          exact hod)
        rw [hm]
        clear hod hu hm hLk hkn hlt
        go_wp2_with fail
        go_loopw [44] (fun i wz => ∃ jx : Nat, jx ≤ m ∧ i = .int .i64 jx ∧ Od w wz b mb (.slice uA m uc) (if back then Ls.take (m - jx) else Ls.drop jx) Ls) (fun i _ => m - (intOf i).toNat)
        case atStart => exact ⟨0, by omega, rfl, HST.out⟩
        case round =>
          obtain ⟨jx, hjm, rfl, hod⟩ := hrel
          by_cases hjlt : jx < m
          · have hown := hod.own
            rw [HMM.out] at hown
            obtain ⟨A', c', hv', hru, -, -⟩ := own_rdE hown encP_len HMM.out
            cases hv'
            have hjl : jx < Ls.length := by have := HMM.out; omega
            obtain ⟨⟨x1, x2, x3, x4⟩, hx⟩ : ∃ x : Pkt, Hid (Ls[jx] = x) := ⟨_, Lib.hid rfl⟩
            obtain ⟨ug, uo, hA, k0, k1, k2, k3⟩ := pkt_at hru jx hjlt hjl _ hx.out
            subst hA
            dsimp only at k0 k1 k2 k3
            have C0 := Lib.hid k0
            have C1 := Lib.hid k1
            have C2 := Lib.hid k2
            have C3 := Lib.hid k3
            cases back with
            | false =>
              simp only [Bool.false_eq_true, if_false] at hod
              obtain ⟨h0, hf, hfe⟩ := order_fst Ls jx hjl
              have HOD := Lib.hid hod
              have HI0 := Lib.hid h0
              have HSM : Hid ((Ls.drop jx).length ≤ 256) := Lib.hid (by rw [List.length_drop]; have := HMM.out; omega)
              have HPK : Hid ((Ls.drop jx)[0]'HI0.out = ⟨x1, x2, x3, x4⟩) := Lib.hid (hf.trans hx.out)
              have HNXT : Hid ((Ls.drop jx).eraseIdx 0 = Ls.drop (jx + 1)) := Lib.hid hfe
              clear hod hown hru k0 k1 k2 k3 hf hfe h0 hx
              go_wp2_with fail
              refine wp_region_done (fun d => fun W' => Below wr.heap.size wr.drew W' ∧ ((d 4) = false → W'.heap.size = wr.heap.size) ∧ ((d 4) = true → (d 6) = false → W'.heap[wr.heap.size]? = some (.cells #[.int .i64 0, .int .i64 0, .string ⟨#[]⟩, .bool false] PT (0, 0))) ∧ ((d 6) = true → W'.heap[wr.heap.size]? = some (.cells #[.int .i64 x1, .int .i64 x2, .string x3, .bool x4] PT (0, 0)))) (fun _ _ => True) (fun k u v => (k = 4 → (fun _ _ => True) u v) ∧ (k = 6 → (fun _ _ => True) u v) ∧ (¬ k = 4 → ¬ k = 6 → (fun _ _ => True) u v)) (fun a i => match i with
                  | 0 => (fun v _ => v = .slice (some ⟨ug, uo, none⟩) m uc)
                  | 1 => (fun v _ => v = .int .i64 (jx : Int))
                  | 2 => (fun v _ => v = .pointer (some ⟨ug, uo + jx * 4, none⟩))
                  | 3 => (fun v _ => v = .agg #[.int .i64 x1, .int .i64 x2, .string x3, .bool x4])
                  | 4 => (fun v _ => v = .pointer (some ⟨wr.heap.size, 0, none⟩))
                  | 5 => (fun v _ => v = .int .i64 0)
                  | 6 => (fun v W => True)
                  | _ => (fun _ _ => True)) #[0, 0, 3, 7, 0, 16, 63] #[0, 0, 3, 4, 0, 0, 24] 127 (by kernel_rfl) 7 rfl (fun m hm => by subst hm; kernel_rfl) (by kernel_rfl) (fun w => trivial) (fun u v w h1 h2 => trivial) ?_ ?_ (⟨Below.refl _ _, fun _ => rfl, (fun h => by cases h), (fun h => by cases h)⟩) ?_ ?_
              · intro k u v hk hr
                by_cases hs4 : k = 4
                · have h := hr.1 hs4; exact trivial
                by_cases hs6 : k = 6
                · have h := hr.2.1 hs6; exact trivial
                have h := hr.2.2 hs4 hs6; exact trivial
              · intro i hi
                rcases (by omega : i = 0 ∨ i = 1 ∨ i = 2 ∨ i = 3 ∨ i = 4 ∨ i = 5 ∨ i = 6) with rfl | rfl | rfl | rfl | rfl | rfl | rfl
                · intro k hk y hy hyt v w w' h hr
                  exact h
                · intro k hk y hy hyt v w w' h hr
                  exact h
                · intro k hk y hy hyt v w w' h hr
                  exact h
                · intro k hk y hy hyt v w w' h hr
                  exact h
                · intro k hk y hy hyt v w w' h hr
                  exact h
                · intro k hk y hy hyt v w w' h hr
                  exact h
                · intro k hk y hy hyt v w w' h hr
                  by_cases hs4 : k = 4
                  · have hr0 := hr.1 hs4
                    subst hs4
                    exact absurd (hy.trans hyt) (ne_true_of_eq_false (by kernel_rfl))
                  by_cases hs6 : k = 6
                  · have hr0 := hr.2.1 hs6
                    subst hs6
                    exact absurd (hy.trans hyt) (ne_true_of_eq_false (by kernel_rfl))
                  have hr := hr.2.2 hs4 hs6
                  exact trivial
              · intro i hi
                rcases (by omega : i = 0 ∨ i = 1 ∨ i = 2 ∨ i = 3 ∨ i = 4 ∨ i = 5 ∨ i = 6) with rfl | rfl | rfl | rfl | rfl | rfl | rfl
                · -- 0: Op.move (Operand.tmp 7)
                  intro l hl vs W dn e1 e2 e3 hS hR hp
                  have f4 : dn 4 = dn 4 := rfl
                  have f6 : dn 6 = false := e3 6 (by kernel_rfl)
                  replace hS : (fun W' => Below wr.heap.size wr.drew W' ∧ ((dn 4) = false → W'.heap.size = wr.heap.size) ∧ ((dn 4) = true → (dn 6) = false → W'.heap[wr.heap.size]? = some (.cells #[.int .i64 0, .int .i64 0, .string ⟨#[]⟩, .bool false] PT (0, 0))) ∧ ((dn 6) = true → W'.heap[wr.heap.size]? = some (.cells #[.int .i64 x1, .int .i64 x2, .string x3, .bool x4] PT (0, 0)))) W := hS
                  rw [f6] at hS
                  have g4 : (dn 4 || ((0 : Nat) == 4)) = dn 4 := Bool.or_false _
                  have g6 : (dn 6 || ((0 : Nat) == 6)) = false := by rw [f6]; rfl
                  refine OpGoal.imp (S1 := fun W' => Below wr.heap.size wr.drew W' ∧ ((dn 4) = false → W'.heap.size = wr.heap.size) ∧ ((dn 4) = true → false = false → W'.heap[wr.heap.size]? = some (.cells #[.int .i64 0, .int .i64 0, .string ⟨#[]⟩, .bool false] PT (0, 0))) ∧ (false = true → W'.heap[wr.heap.size]? = some (.cells #[.int .i64 x1, .int .i64 x2, .string x3, .bool x4] PT (0, 0)))) (fun W' h => ?_) ?_
                  · show (fun W' => Below wr.heap.size wr.drew W' ∧ ((dn 4 || ((0 : Nat) == 4)) = false → W'.heap.size = wr.heap.size) ∧ ((dn 4 || ((0 : Nat) == 4)) = true → (dn 6 || ((0 : Nat) == 6)) = false → W'.heap[wr.heap.size]? = some (.cells #[.int .i64 0, .int .i64 0, .string ⟨#[]⟩, .bool false] PT (0, 0))) ∧ ((dn 6 || ((0 : Nat) == 6)) = true → W'.heap[wr.heap.size]? = some (.cells #[.int .i64 x1, .int .i64 x2, .string x3, .bool x4] PT (0, 0)))) W'
                    rw [g4, g6]
                    exact h
                  clear g4 g6 e1 e2 e3
                  obtain rfl : l = [] := hl.symm.trans (by kernel_rfl)
                  clear hp hl
                  refine opgoal (_) (some 47) rfl rfl fun K hK => ?_
                  refine Runs.mk ?_
                  simp only [putAll]
                  go_simp
                  refine hK _ _ ?_ hS ⟨fun h => absurd h (by decide), fun h => absurd h (by decide), fun h4 h6 => ((fun w => trivial) W)⟩ _ rfl rfl
                  first | rfl | go_simp | simp
                · -- 1: Op.move (Operand.tmp 10)
                  intro l hl vs W dn e1 e2 e3 hS hR hp
                  have f4 : dn 4 = dn 4 := rfl
                  have f6 : dn 6 = false := e3 6 (by kernel_rfl)
                  replace hS : (fun W' => Below wr.heap.size wr.drew W' ∧ ((dn 4) = false → W'.heap.size = wr.heap.size) ∧ ((dn 4) = true → (dn 6) = false → W'.heap[wr.heap.size]? = some (.cells #[.int .i64 0, .int .i64 0, .string ⟨#[]⟩, .bool false] PT (0, 0))) ∧ ((dn 6) = true → W'.heap[wr.heap.size]? = some (.cells #[.int .i64 x1, .int .i64 x2, .string x3, .bool x4] PT (0, 0)))) W := hS
                  rw [f6] at hS
                  have g4 : (dn 4 || ((1 : Nat) == 4)) = dn 4 := Bool.or_false _
                  have g6 : (dn 6 || ((1 : Nat) == 6)) = false := by rw [f6]; rfl
                  refine OpGoal.imp (S1 := fun W' => Below wr.heap.size wr.drew W' ∧ ((dn 4) = false → W'.heap.size = wr.heap.size) ∧ ((dn 4) = true → false = false → W'.heap[wr.heap.size]? = some (.cells #[.int .i64 0, .int .i64 0, .string ⟨#[]⟩, .bool false] PT (0, 0))) ∧ (false = true → W'.heap[wr.heap.size]? = some (.cells #[.int .i64 x1, .int .i64 x2, .string x3, .bool x4] PT (0, 0)))) (fun W' h => ?_) ?_
                  · show (fun W' => Below wr.heap.size wr.drew W' ∧ ((dn 4 || ((1 : Nat) == 4)) = false → W'.heap.size = wr.heap.size) ∧ ((dn 4 || ((1 : Nat) == 4)) = true → (dn 6 || ((1 : Nat) == 6)) = false → W'.heap[wr.heap.size]? = some (.cells #[.int .i64 0, .int .i64 0, .string ⟨#[]⟩, .bool false] PT (0, 0))) ∧ ((dn 6 || ((1 : Nat) == 6)) = true → W'.heap[wr.heap.size]? = some (.cells #[.int .i64 x1, .int .i64 x2, .string x3, .bool x4] PT (0, 0)))) W'
                    rw [g4, g6]
                    exact h
                  clear g4 g6 e1 e2 e3
                  obtain rfl : l = [] := hl.symm.trans (by kernel_rfl)
                  clear hp hl
                  refine opgoal (_) (some 48) rfl rfl fun K hK => ?_
                  refine Runs.mk ?_
                  simp only [putAll]
                  go_simp
                  refine hK _ _ ?_ hS ⟨fun h => absurd h (by decide), fun h => absurd h (by decide), fun h4 h6 => ((fun w => trivial) W)⟩ _ rfl rfl
                  first | rfl | go_simp | simp
                · -- 2: Op.indexAddr 22 (Operand.tmp 47) (Operand.tmp 48)
                  intro l hl vs W dn e1 e2 e3 hS hR hp
                  have f4 : dn 4 = dn 4 := rfl
                  have f6 : dn 6 = false := e3 6 (by kernel_rfl)
                  replace hS : (fun W' => Below wr.heap.size wr.drew W' ∧ ((dn 4) = false → W'.heap.size = wr.heap.size) ∧ ((dn 4) = true → (dn 6) = false → W'.heap[wr.heap.size]? = some (.cells #[.int .i64 0, .int .i64 0, .string ⟨#[]⟩, .bool false] PT (0, 0))) ∧ ((dn 6) = true → W'.heap[wr.heap.size]? = some (.cells #[.int .i64 x1, .int .i64 x2, .string x3, .bool x4] PT (0, 0)))) W := hS
                  rw [f6] at hS
                  have g4 : (dn 4 || ((2 : Nat) == 4)) = dn 4 := Bool.or_false _
                  have g6 : (dn 6 || ((2 : Nat) == 6)) = false := by rw [f6]; rfl
                  refine OpGoal.imp (S1 := fun W' => Below wr.heap.size wr.drew W' ∧ ((dn 4) = false → W'.heap.size = wr.heap.size) ∧ ((dn 4) = true → false = false → W'.heap[wr.heap.size]? = some (.cells #[.int .i64 0, .int .i64 0, .string ⟨#[]⟩, .bool false] PT (0, 0))) ∧ (false = true → W'.heap[wr.heap.size]? = some (.cells #[.int .i64 x1, .int .i64 x2, .string x3, .bool x4] PT (0, 0)))) (fun W' h => ?_) ?_
                  · show (fun W' => Below wr.heap.size wr.drew W' ∧ ((dn 4 || ((2 : Nat) == 4)) = false → W'.heap.size = wr.heap.size) ∧ ((dn 4 || ((2 : Nat) == 4)) = true → (dn 6 || ((2 : Nat) == 6)) = false → W'.heap[wr.heap.size]? = some (.cells #[.int .i64 0, .int .i64 0, .string ⟨#[]⟩, .bool false] PT (0, 0))) ∧ ((dn 6 || ((2 : Nat) == 6)) = true → W'.heap[wr.heap.size]? = some (.cells #[.int .i64 x1, .int .i64 x2, .string x3, .bool x4] PT (0, 0)))) W'
                    rw [g4, g6]
                    exact h
                  clear g4 g6 e1 e2 e3
                  obtain rfl : l = [(0, 47), (1, 48)] := hl.symm.trans (by kernel_rfl)
                  have p0 : vs 0 = _ := hp 0 (by decide) (by decide)
                  have p1 : vs 1 = _ := hp 1 (by decide) (by decide)
                  clear hp hl
                  refine opgoal (_) (some 49) rfl rfl fun K hK => ?_
                  refine Runs.mk ?_
                  simp only [putAll]
                  go_simp
                  refine hK _ _ ?_ hS ⟨fun h => absurd h (by decide), fun h => absurd h (by decide), fun h4 h6 => ((fun w => trivial) W)⟩ _ rfl rfl
                  first | rfl | go_simp | simp
                · -- 3: Op.load 29 (Operand.tmp 49)
                  intro l hl vs W dn e1 e2 e3 hS hR hp
                  have f4 : dn 4 = dn 4 := rfl
                  have f6 : dn 6 = false := e3 6 (by kernel_rfl)
                  replace hS : (fun W' => Below wr.heap.size wr.drew W' ∧ ((dn 4) = false → W'.heap.size = wr.heap.size) ∧ ((dn 4) = true → (dn 6) = false → W'.heap[wr.heap.size]? = some (.cells #[.int .i64 0, .int .i64 0, .string ⟨#[]⟩, .bool false] PT (0, 0))) ∧ ((dn 6) = true → W'.heap[wr.heap.size]? = some (.cells #[.int .i64 x1, .int .i64 x2, .string x3, .bool x4] PT (0, 0)))) W := hS
                  rw [f6] at hS
                  have g4 : (dn 4 || ((3 : Nat) == 4)) = dn 4 := Bool.or_false _
                  have g6 : (dn 6 || ((3 : Nat) == 6)) = false := by rw [f6]; rfl
                  refine OpGoal.imp (S1 := fun W' => Below wr.heap.size wr.drew W' ∧ ((dn 4) = false → W'.heap.size = wr.heap.size) ∧ ((dn 4) = true → false = false → W'.heap[wr.heap.size]? = some (.cells #[.int .i64 0, .int .i64 0, .string ⟨#[]⟩, .bool false] PT (0, 0))) ∧ (false = true → W'.heap[wr.heap.size]? = some (.cells #[.int .i64 x1, .int .i64 x2, .string x3, .bool x4] PT (0, 0)))) (fun W' h => ?_) ?_
                  · show (fun W' => Below wr.heap.size wr.drew W' ∧ ((dn 4 || ((3 : Nat) == 4)) = false → W'.heap.size = wr.heap.size) ∧ ((dn 4 || ((3 : Nat) == 4)) = true → (dn 6 || ((3 : Nat) == 6)) = false → W'.heap[wr.heap.size]? = some (.cells #[.int .i64 0, .int .i64 0, .string ⟨#[]⟩, .bool false] PT (0, 0))) ∧ ((dn 6 || ((3 : Nat) == 6)) = true → W'.heap[wr.heap.size]? = some (.cells #[.int .i64 x1, .int .i64 x2, .string x3, .bool x4] PT (0, 0)))) W'
                    rw [g4, g6]
                    exact h
                  clear g4 g6 e1 e2 e3
                  obtain rfl : l = [(0, 47), (1, 48), (2, 49)] := hl.symm.trans (by kernel_rfl)
                  have p2 : vs 2 = _ := hp 2 (by decide) (by decide)
                  clear hp hl
                  refine opgoal (_) (some 50) rfl rfl fun K hK => ?_
                  have f0 := cell_below (w := wr.drew) hS.1 C0.out
                  have f1 := cell_below (w := wr.drew) hS.1 C1.out
                  have f2 := cell_below (w := wr.drew) hS.1 C2.out
                  have f3 := cell_below (w := wr.drew) hS.1 C3.out
                  refine Runs.mk ?_
                  simp only [putAll]
                  go_simp
                  refine hK _ _ ?_ hS ⟨fun h => absurd h (by decide), fun h => absurd h (by decide), fun h4 h6 => ((fun w => trivial) W)⟩ _ rfl rfl
                  first | rfl | go_simp | simp
                · -- 4: Op.alloc 29
                  intro l hl vs W dn e1 e2 e3 hS hR hp
                  have f4 : dn 4 = false := e1
                  have f6 : dn 6 = false := e3 6 (by kernel_rfl)
                  replace hS : (fun W' => Below wr.heap.size wr.drew W' ∧ ((dn 4) = false → W'.heap.size = wr.heap.size) ∧ ((dn 4) = true → (dn 6) = false → W'.heap[wr.heap.size]? = some (.cells #[.int .i64 0, .int .i64 0, .string ⟨#[]⟩, .bool false] PT (0, 0))) ∧ ((dn 6) = true → W'.heap[wr.heap.size]? = some (.cells #[.int .i64 x1, .int .i64 x2, .string x3, .bool x4] PT (0, 0)))) W := hS
                  rw [f4, f6] at hS
                  have g4 : (dn 4 || ((4 : Nat) == 4)) = true := by rw [f4]; rfl
                  have g6 : (dn 6 || ((4 : Nat) == 6)) = false := by rw [f6]; rfl
                  refine OpGoal.imp (S1 := fun W' => Below wr.heap.size wr.drew W' ∧ (true = false → W'.heap.size = wr.heap.size) ∧ (true = true → false = false → W'.heap[wr.heap.size]? = some (.cells #[.int .i64 0, .int .i64 0, .string ⟨#[]⟩, .bool false] PT (0, 0))) ∧ (false = true → W'.heap[wr.heap.size]? = some (.cells #[.int .i64 x1, .int .i64 x2, .string x3, .bool x4] PT (0, 0)))) (fun W' h => ?_) ?_
                  · show (fun W' => Below wr.heap.size wr.drew W' ∧ ((dn 4 || ((4 : Nat) == 4)) = false → W'.heap.size = wr.heap.size) ∧ ((dn 4 || ((4 : Nat) == 4)) = true → (dn 6 || ((4 : Nat) == 6)) = false → W'.heap[wr.heap.size]? = some (.cells #[.int .i64 0, .int .i64 0, .string ⟨#[]⟩, .bool false] PT (0, 0))) ∧ ((dn 6 || ((4 : Nat) == 6)) = true → W'.heap[wr.heap.size]? = some (.cells #[.int .i64 x1, .int .i64 x2, .string x3, .bool x4] PT (0, 0)))) W'
                    rw [g4, g6]
                    exact h
                  clear g4 g6 e1 e2 e3
                  obtain rfl : l = [] := hl.symm.trans (by kernel_rfl)
                  clear hp hl
                  refine opgoal (_) (some 12) rfl rfl fun K hK => ?_
                  refine Runs.mk ?_
                  simp only [putAll]
                  go_simp
                  have hsz := hS.2.1 rfl
                  refine hK _ _ (by first | rfl | (rw [hsz])) ⟨hS.1.trans ((below_alloc W _).mono (Nat.le_of_eq hsz.symm)), (fun h => by cases h), (fun _ _ => by rw [← hsz]; exact heap_alloc_new _ _), (fun h => by cases h)⟩ ⟨fun _ => trivial, fun h => absurd h (by decide), fun h4 h6 => absurd rfl h4⟩ _ rfl rfl
                · -- 5: Op.assign (Operand.const (Value.int IntKind.i64 0))
                  intro l hl vs W dn e1 e2 e3 hS hR hp
                  have f4 : dn 4 = true := e2 4 (by kernel_rfl)
                  have f6 : dn 6 = false := e3 6 (by kernel_rfl)
                  replace hS : (fun W' => Below wr.heap.size wr.drew W' ∧ ((dn 4) = false → W'.heap.size = wr.heap.size) ∧ ((dn 4) = true → (dn 6) = false → W'.heap[wr.heap.size]? = some (.cells #[.int .i64 0, .int .i64 0, .string ⟨#[]⟩, .bool false] PT (0, 0))) ∧ ((dn 6) = true → W'.heap[wr.heap.size]? = some (.cells #[.int .i64 x1, .int .i64 x2, .string x3, .bool x4] PT (0, 0)))) W := hS
                  rw [f4, f6] at hS
                  have g4 : (dn 4 || ((5 : Nat) == 4)) = true := by rw [f4]; rfl
                  have g6 : (dn 6 || ((5 : Nat) == 6)) = false := by rw [f6]; rfl
                  refine OpGoal.imp (S1 := fun W' => Below wr.heap.size wr.drew W' ∧ (true = false → W'.heap.size = wr.heap.size) ∧ (true = true → false = false → W'.heap[wr.heap.size]? = some (.cells #[.int .i64 0, .int .i64 0, .string ⟨#[]⟩, .bool false] PT (0, 0))) ∧ (false = true → W'.heap[wr.heap.size]? = some (.cells #[.int .i64 x1, .int .i64 x2, .string x3, .bool x4] PT (0, 0)))) (fun W' h => ?_) ?_
                  · show (fun W' => Below wr.heap.size wr.drew W' ∧ ((dn 4 || ((5 : Nat) == 4)) = false → W'.heap.size = wr.heap.size) ∧ ((dn 4 || ((5 : Nat) == 4)) = true → (dn 6 || ((5 : Nat) == 6)) = false → W'.heap[wr.heap.size]? = some (.cells #[.int .i64 0, .int .i64 0, .string ⟨#[]⟩, .bool false] PT (0, 0))) ∧ ((dn 6 || ((5 : Nat) == 6)) = true → W'.heap[wr.heap.size]? = some (.cells #[.int .i64 x1, .int .i64 x2, .string x3, .bool x4] PT (0, 0)))) W'
                    rw [g4, g6]
                    exact h
                  clear g4 g6 e1 e2 e3
                  obtain rfl : l = [(4, 12)] := hl.symm.trans (by kernel_rfl)
                  clear hp hl
                  refine opgoal (_) (some 11) rfl rfl fun K hK => ?_
                  refine Runs.mk ?_
                  simp only [putAll]
                  go_simp
                  refine hK _ _ ?_ hS ⟨fun h => absurd h (by decide), fun h => absurd h (by decide), fun h4 h6 => ((fun w => trivial) W)⟩ _ rfl rfl
                  first | rfl | go_simp | simp
                · -- 6: Op.store 29 (Operand.tmp 12) (Operand.tmp 50)
                  intro l hl vs W dn e1 e2 e3 hS hR hp
                  have f4 : dn 4 = true := e2 4 (by kernel_rfl)
                  have f6 : dn 6 = false := e1
                  replace hS : (fun W' => Below wr.heap.size wr.drew W' ∧ ((dn 4) = false → W'.heap.size = wr.heap.size) ∧ ((dn 4) = true → (dn 6) = false → W'.heap[wr.heap.size]? = some (.cells #[.int .i64 0, .int .i64 0, .string ⟨#[]⟩, .bool false] PT (0, 0))) ∧ ((dn 6) = true → W'.heap[wr.heap.size]? = some (.cells #[.int .i64 x1, .int .i64 x2, .string x3, .bool x4] PT (0, 0)))) W := hS
                  rw [f4, f6] at hS
                  have g4 : (dn 4 || ((6 : Nat) == 4)) = true := by rw [f4]; rfl
                  have g6 : (dn 6 || ((6 : Nat) == 6)) = true := by rw [f6]; rfl
                  refine OpGoal.imp (S1 := fun W' => Below wr.heap.size wr.drew W' ∧ (true = false → W'.heap.size = wr.heap.size) ∧ (true = true → true = false → W'.heap[wr.heap.size]? = some (.cells #[.int .i64 0, .int .i64 0, .string ⟨#[]⟩, .bool false] PT (0, 0))) ∧ (true = true → W'.heap[wr.heap.size]? = some (.cells #[.int .i64 x1, .int .i64 x2, .string x3, .bool x4] PT (0, 0)))) (fun W' h => ?_) ?_
                  · show (fun W' => Below wr.heap.size wr.drew W' ∧ ((dn 4 || ((6 : Nat) == 4)) = false → W'.heap.size = wr.heap.size) ∧ ((dn 4 || ((6 : Nat) == 4)) = true → (dn 6 || ((6 : Nat) == 6)) = false → W'.heap[wr.heap.size]? = some (.cells #[.int .i64 0, .int .i64 0, .string ⟨#[]⟩, .bool false] PT (0, 0))) ∧ ((dn 6 || ((6 : Nat) == 6)) = true → W'.heap[wr.heap.size]? = some (.cells #[.int .i64 x1, .int .i64 x2, .string x3, .bool x4] PT (0, 0)))) W'
                    rw [g4, g6]
                    exact h
                  clear g4 g6 e1 e2 e3
                  obtain rfl : l = [(0, 47), (1, 48), (2, 49), (3, 50), (4, 12), (5, 11)] := hl.symm.trans (by kernel_rfl)
                  have p3 : vs 3 = _ := hp 3 (by decide) (by decide)
                  have p4 : vs 4 = _ := hp 4 (by decide) (by decide)
                  clear hp hl
                  refine opgoal ({ dst := none, op := Op.store 29 (Operand.tmp 12) (Operand.tmp 50), type := 0, pos := "law.go:172", after := #[{ on := 4, ground := Ground.data }, { on := 3, ground := Ground.data }, { on := 5, ground := Ground.chain }, { on := 0, ground := Ground.phase }, { on := 1, ground := Ground.phase }, { on := 2, ground := Ground.phase }, { on := 3, ground := Ground.phase }, { on := 4, ground := Ground.phase }, { on := 5, ground := Ground.phase }], guard := none }) (none) rfl rfl fun K hK => ?_
                  refine runs_store_blk (wanted_none rfl) PT (.tmp 12) (.tmp 50) rfl wr.heap.size 0 (by simp [putAll, Act.put, Act.eval, p4]) PT _ (.agg #[.int .i64 x1, .int .i64 x2, .string x3, .bool x4]) (by simp [putAll, Act.put, Act.eval, p3]) (hS.2.2.1 rfl rfl) (by kernel_rfl) (by simp [Value.cells]) (by simp [Value.cells, Value.oneCell']) _ rfl ?_
                  intro w5 hg5 hu5
                  exact hK undef _ trivial ⟨hS.1.trans (hu5.below (Nat.le_refl _)), (fun h => by cases h), (fun _ h => by cases h), fun _ => hg5⟩ ⟨fun h => absurd h (by decide), fun _ => trivial, fun h4 h6 => absurd rfl h6⟩ _ put_dfs (by first | rfl | trivial | simp [slotIs])
              · intro l hl vs W dn hd hS hR hp
                replace hS : (fun W' => Below wr.heap.size wr.drew W' ∧ ((dn 4) = false → W'.heap.size = wr.heap.size) ∧ ((dn 4) = true → (dn 6) = false → W'.heap[wr.heap.size]? = some (.cells #[.int .i64 0, .int .i64 0, .string ⟨#[]⟩, .bool false] PT (0, 0))) ∧ ((dn 6) = true → W'.heap[wr.heap.size]? = some (.cells #[.int .i64 x1, .int .i64 x2, .string x3, .bool x4] PT (0, 0)))) W := hS
                rw [hd 4 (by decide), hd 6 (by decide)] at hS
                obtain rfl : l = [(0, 47), (1, 48), (2, 49), (3, 50), (4, 12), (5, 11)] := hl.symm.trans (by kernel_rfl)
                have p0 : vs 0 = _ := hp 0 (by decide) (by decide)
                have p1 : vs 1 = _ := hp 1 (by decide) (by decide)
                have p2 : vs 2 = _ := hp 2 (by decide) (by decide)
                have p3 : vs 3 = _ := hp 3 (by decide) (by decide)
                have p4 : vs 4 = _ := hp 4 (by decide) (by decide)
                have p5 : vs 5 = _ := hp 5 (by decide) (by decide)
                have p6 : (fun v W => True) (vs 6) W := hp 6 (by decide) (by decide)
                dsimp only at p6
                clear hp hl
                simp only [putAll_mk, setAll, List.setIfInBounds_toArray, List.set_cons_succ, List.set_cons_zero, p0, p1, p2, p3, p4, p5]
                have HB18 := Lib.hid hS.1
                have HX18 := Lib.hid (hS.2.2.2 rfl)
                clear hS hR p6
                go_wp2_with fail
                refine (od_take HOD.out (Below.of_drew HB18.out) 0 HI0.out HSM.out wr.heap.size (Nat.le_refl _) _ HX18.out).mono ?_
                rintro e w5 ⟨rfl, hod5, hx5⟩
                rw [HPK.out]
                have hal5 := below_alloc w5 (.cells #[.int .i64 x1, .int .i64 x2, .string x3, .bool x4] PT)
                obtain ⟨f0, f1, f2, f3⟩ := pk_cells hx5
                have g0 : ∀ o, (w5.alloc o).cell? ⟨wr.heap.size, 0, none⟩ = some (.int .i64 x1) := fun o => cell_below (below_alloc w5 o) f0
                have g1 : ∀ o, (w5.alloc o).cell? ⟨wr.heap.size, 1, none⟩ = some (.int .i64 x2) := fun o => cell_below (below_alloc w5 o) f1
                have g2 : ∀ o, (w5.alloc o).cell? ⟨wr.heap.size, 2, none⟩ = some (.string x3) := fun o => cell_below (below_alloc w5 o) f2
                have g3 : ∀ o, (w5.alloc o).cell? ⟨wr.heap.size, 3, none⟩ = some (.bool x4) := fun o => cell_below (below_alloc w5 o) f3
                have HOD5 := Lib.hid (hod5.below hal5)
                have heq := pk_eq x1 x2 x3 x4
                have hg := pk_guard
                clear hod5 hx5 hal5 f0 f1 f2 f3
                go_wp2_with fail
                go_roundw
                case rel => exact ⟨jx + 1, by omega, by go_num, by have hh := HOD5.out; rw [HNXT.out] at hh; first | exact hh | simpa using hh⟩
                case measure => simp [intOf]; omega
            | true =>
              simp only [if_true] at hod
              obtain ⟨rx, hrx⟩ : ∃ rx, rx = m - 1 - jx := ⟨_, rfl⟩
              have hrl : rx < Ls.length := by have := HMM.out; omega
              obtain ⟨⟨y1, y2, y3, y4⟩, hy⟩ : ∃ y : Pkt, Hid (Ls[rx] = y) := ⟨_, Lib.hid rfl⟩
              obtain ⟨ug', uo', hA', d0, d1, d2, d3⟩ := pkt_at hru rx (by omega) hrl _ hy.out
              obtain ⟨rfl, rfl⟩ : ug = ug' ∧ uo = uo' := by injection hA' with h1; injection h1 with h1 h2; exact ⟨h1, h2⟩
              dsimp only at d0 d1 d2 d3
              have D0 := Lib.hid d0
              have D1 := Lib.hid d1
              have D2 := Lib.hid d2
              have D3 := Lib.hid d3
              obtain ⟨h0, hf, hfe⟩ := order_lst Ls rx hrl
              have hmj : m - jx = rx + 1 := by omega
              rw [hmj] at hod
              obtain ⟨rl, hrle⟩ : ∃ rl, rl = rx := ⟨_, rfl⟩
              obtain ⟨l, hl⟩ : ∃ l, l = rx + 1 := ⟨_, rfl⟩
              obtain ⟨m1, hm1⟩ : ∃ m1, m1 = m - 1 := ⟨_, rfl⟩
              have HOD := Lib.hid hod
              have HLL : Hid ((Ls.take (rx + 1)).length = l) := Lib.hid (by rw [List.length_take, hl]; omega)
              have HI0 : Hid (rl < (Ls.take (rx + 1)).length) := Lib.hid (by rw [hrle]; exact h0)
              have HSM : Hid ((Ls.take (rx + 1)).length ≤ 256) := Lib.hid (by rw [List.length_take]; omega)
              have HPK : Hid ((Ls.take (rx + 1))[rl]'HI0.out = ⟨y1, y2, y3, y4⟩) := Lib.hid (by subst hrle; exact hf.trans hy.out)
              have HNXT : Hid ((Ls.take (rx + 1)).eraseIdx rl = Ls.take (m - (jx + 1))) := Lib.hid (by subst hrle; rw [hfe, show m - (jx + 1) = rl by omega])
              have HW1 : Hid (IntKind.i64.wrap ((l : Int) - 1) = (rl : Int)) := Lib.hid (by rw [IntKind.wrap_i64]; omega)
              have HW2 : Hid (IntKind.i64.wrap ((m : Int) - 1) = (m1 : Int)) := Lib.hid (by rw [IntKind.wrap_i64]; omega)
              have HW3 : Hid (IntKind.i64.wrap ((m1 : Int) - (jx : Int)) = (rx : Int)) := Lib.hid (by rw [IntKind.wrap_i64]; omega)
              have HRX : Hid (rx < m) := Lib.hid (by omega)
              clear hod hown hru k0 k1 k2 k3 d0 d1 d2 d3 hf hfe h0 hx hy hA' hrx hrl hmj hrle hl hm1
              go_wp2_with fail
              refine wp_region_done (fun d => fun W' => Below wr.heap.size wr.drew W' ∧ ((d 4) = false → W'.heap.size = wr.heap.size) ∧ ((d 4) = true → (d 6) = false → W'.heap[wr.heap.size]? = some (.cells #[.int .i64 0, .int .i64 0, .string ⟨#[]⟩, .bool false] PT (0, 0))) ∧ ((d 6) = true → W'.heap[wr.heap.size]? = some (.cells #[.int .i64 x1, .int .i64 x2, .string x3, .bool x4] PT (0, 0)))) (fun _ _ => True) (fun k u v => (k = 4 → (fun _ _ => True) u v) ∧ (k = 6 → (fun _ _ => True) u v) ∧ (¬ k = 4 → ¬ k = 6 → (fun _ _ => True) u v)) (fun a i => match i with
                  | 0 => (fun v _ => v = .slice (some ⟨ug, uo, none⟩) m uc)
                  | 1 => (fun v _ => v = .int .i64 (jx : Int))
                  | 2 => (fun v _ => v = .pointer (some ⟨ug, uo + jx * 4, none⟩))
                  | 3 => (fun v _ => v = .agg #[.int .i64 x1, .int .i64 x2, .string x3, .bool x4])
                  | 4 => (fun v _ => v = .pointer (some ⟨wr.heap.size, 0, none⟩))
                  | 5 => (fun v _ => v = .int .i64 0)
                  | 6 => (fun v W => True)
                  | _ => (fun _ _ => True)) #[0, 0, 3, 7, 0, 16, 63] #[0, 0, 3, 4, 0, 0, 24] 127 (by kernel_rfl) 7 rfl (fun m hm => by subst hm; kernel_rfl) (by kernel_rfl) (fun w => trivial) (fun u v w h1 h2 => trivial) ?_ ?_ (⟨Below.refl _ _, fun _ => rfl, (fun h => by cases h), (fun h => by cases h)⟩) ?_ ?_
              · intro k u v hk hr
                by_cases hs4 : k = 4
                · have h := hr.1 hs4; exact trivial
                by_cases hs6 : k = 6
                · have h := hr.2.1 hs6; exact trivial
                have h := hr.2.2 hs4 hs6; exact trivial
              · intro i hi
                rcases (by omega : i = 0 ∨ i = 1 ∨ i = 2 ∨ i = 3 ∨ i = 4 ∨ i = 5 ∨ i = 6) with rfl | rfl | rfl | rfl | rfl | rfl | rfl
                · intro k hk y hy hyt v w w' h hr
                  exact h
                · intro k hk y hy hyt v w w' h hr
                  exact h
                · intro k hk y hy hyt v w w' h hr
                  exact h
                · intro k hk y hy hyt v w w' h hr
                  exact h
                · intro k hk y hy hyt v w w' h hr
                  exact h
                · intro k hk y hy hyt v w w' h hr
                  exact h
                · intro k hk y hy hyt v w w' h hr
                  by_cases hs4 : k = 4
                  · have hr0 := hr.1 hs4
                    subst hs4
                    exact absurd (hy.trans hyt) (ne_true_of_eq_false (by kernel_rfl))
                  by_cases hs6 : k = 6
                  · have hr0 := hr.2.1 hs6
                    subst hs6
                    exact absurd (hy.trans hyt) (ne_true_of_eq_false (by kernel_rfl))
                  have hr := hr.2.2 hs4 hs6
                  exact trivial
              · intro i hi
                rcases (by omega : i = 0 ∨ i = 1 ∨ i = 2 ∨ i = 3 ∨ i = 4 ∨ i = 5 ∨ i = 6) with rfl | rfl | rfl | rfl | rfl | rfl | rfl
                · -- 0: Op.move (Operand.tmp 7)
                  intro l hl vs W dn e1 e2 e3 hS hR hp
                  have f4 : dn 4 = dn 4 := rfl
                  have f6 : dn 6 = false := e3 6 (by kernel_rfl)
                  replace hS : (fun W' => Below wr.heap.size wr.drew W' ∧ ((dn 4) = false → W'.heap.size = wr.heap.size) ∧ ((dn 4) = true → (dn 6) = false → W'.heap[wr.heap.size]? = some (.cells #[.int .i64 0, .int .i64 0, .string ⟨#[]⟩, .bool false] PT (0, 0))) ∧ ((dn 6) = true → W'.heap[wr.heap.size]? = some (.cells #[.int .i64 x1, .int .i64 x2, .string x3, .bool x4] PT (0, 0)))) W := hS
                  rw [f6] at hS
                  have g4 : (dn 4 || ((0 : Nat) == 4)) = dn 4 := Bool.or_false _
                  have g6 : (dn 6 || ((0 : Nat) == 6)) = false := by rw [f6]; rfl
                  refine OpGoal.imp (S1 := fun W' => Below wr.heap.size wr.drew W' ∧ ((dn 4) = false → W'.heap.size = wr.heap.size) ∧ ((dn 4) = true → false = false → W'.heap[wr.heap.size]? = some (.cells #[.int .i64 0, .int .i64 0, .string ⟨#[]⟩, .bool false] PT (0, 0))) ∧ (false = true → W'.heap[wr.heap.size]? = some (.cells #[.int .i64 x1, .int .i64 x2, .string x3, .bool x4] PT (0, 0)))) (fun W' h => ?_) ?_
                  · show (fun W' => Below wr.heap.size wr.drew W' ∧ ((dn 4 || ((0 : Nat) == 4)) = false → W'.heap.size = wr.heap.size) ∧ ((dn 4 || ((0 : Nat) == 4)) = true → (dn 6 || ((0 : Nat) == 6)) = false → W'.heap[wr.heap.size]? = some (.cells #[.int .i64 0, .int .i64 0, .string ⟨#[]⟩, .bool false] PT (0, 0))) ∧ ((dn 6 || ((0 : Nat) == 6)) = true → W'.heap[wr.heap.size]? = some (.cells #[.int .i64 x1, .int .i64 x2, .string x3, .bool x4] PT (0, 0)))) W'
                    rw [g4, g6]
                    exact h
                  clear g4 g6 e1 e2 e3
                  obtain rfl : l = [] := hl.symm.trans (by kernel_rfl)
                  clear hp hl
                  refine opgoal (_) (some 47) rfl rfl fun K hK => ?_
                  refine Runs.mk ?_
                  simp only [putAll]
                  go_simp
                  refine hK _ _ ?_ hS ⟨fun h => absurd h (by decide), fun h => absurd h (by decide), fun h4 h6 => ((fun w => trivial) W)⟩ _ rfl rfl
                  first | rfl | go_simp | simp
                · -- 1: Op.move (Operand.tmp 10)
                  intro l hl vs W dn e1 e2 e3 hS hR hp
                  have f4 : dn 4 = dn 4 := rfl
                  have f6 : dn 6 = false := e3 6 (by kernel_rfl)
                  replace hS : (fun W' => Below wr.heap.size wr.drew W' ∧ ((dn 4) = false → W'.heap.size = wr.heap.size) ∧ ((dn 4) = true → (dn 6) = false → W'.heap[wr.heap.size]? = some (.cells #[.int .i64 0, .int .i64 0, .string ⟨#[]⟩, .bool false] PT (0, 0))) ∧ ((dn 6) = true → W'.heap[wr.heap.size]? = some (.cells #[.int .i64 x1, .int .i64 x2, .string x3, .bool x4] PT (0, 0)))) W := hS
                  rw [f6] at hS
                  have g4 : (dn 4 || ((1 : Nat) == 4)) = dn 4 := Bool.or_false _
                  have g6 : (dn 6 || ((1 : Nat) == 6)) = false := by rw [f6]; rfl
                  refine OpGoal.imp (S1 := fun W' => Below wr.heap.size wr.drew W' ∧ ((dn 4) = false → W'.heap.size = wr.heap.size) ∧ ((dn 4) = true → false = false → W'.heap[wr.heap.size]? = some (.cells #[.int .i64 0, .int .i64 0, .string ⟨#[]⟩, .bool false] PT (0, 0))) ∧ (false = true → W'.heap[wr.heap.size]? = some (.cells #[.int .i64 x1, .int .i64 x2, .string x3, .bool x4] PT (0, 0)))) (fun W' h => ?_) ?_
                  · show (fun W' => Below wr.heap.size wr.drew W' ∧ ((dn 4 || ((1 : Nat) == 4)) = false → W'.heap.size = wr.heap.size) ∧ ((dn 4 || ((1 : Nat) == 4)) = true → (dn 6 || ((1 : Nat) == 6)) = false → W'.heap[wr.heap.size]? = some (.cells #[.int .i64 0, .int .i64 0, .string ⟨#[]⟩, .bool false] PT (0, 0))) ∧ ((dn 6 || ((1 : Nat) == 6)) = true → W'.heap[wr.heap.size]? = some (.cells #[.int .i64 x1, .int .i64 x2, .string x3, .bool x4] PT (0, 0)))) W'
                    rw [g4, g6]
                    exact h
                  clear g4 g6 e1 e2 e3
                  obtain rfl : l = [] := hl.symm.trans (by kernel_rfl)
                  clear hp hl
                  refine opgoal (_) (some 48) rfl rfl fun K hK => ?_
                  refine Runs.mk ?_
                  simp only [putAll]
                  go_simp
                  refine hK _ _ ?_ hS ⟨fun h => absurd h (by decide), fun h => absurd h (by decide), fun h4 h6 => ((fun w => trivial) W)⟩ _ rfl rfl
                  first | rfl | go_simp | simp
                · -- 2: Op.indexAddr 22 (Operand.tmp 47) (Operand.tmp 48)
                  intro l hl vs W dn e1 e2 e3 hS hR hp
                  have f4 : dn 4 = dn 4 := rfl
                  have f6 : dn 6 = false := e3 6 (by kernel_rfl)
                  replace hS : (fun W' => Below wr.heap.size wr.drew W' ∧ ((dn 4) = false → W'.heap.size = wr.heap.size) ∧ ((dn 4) = true → (dn 6) = false → W'.heap[wr.heap.size]? = some (.cells #[.int .i64 0, .int .i64 0, .string ⟨#[]⟩, .bool false] PT (0, 0))) ∧ ((dn 6) = true → W'.heap[wr.heap.size]? = some (.cells #[.int .i64 x1, .int .i64 x2, .string x3, .bool x4] PT (0, 0)))) W := hS
                  rw [f6] at hS
                  have g4 : (dn 4 || ((2 : Nat) == 4)) = dn 4 := Bool.or_false _
                  have g6 : (dn 6 || ((2 : Nat) == 6)) = false := by rw [f6]; rfl
                  refine OpGoal.imp (S1 := fun W' => Below wr.heap.size wr.drew W' ∧ ((dn 4) = false → W'.heap.size = wr.heap.size) ∧ ((dn 4) = true → false = false → W'.heap[wr.heap.size]? = some (.cells #[.int .i64 0, .int .i64 0, .string ⟨#[]⟩, .bool false] PT (0, 0))) ∧ (false = true → W'.heap[wr.heap.size]? = some (.cells #[.int .i64 x1, .int .i64 x2, .string x3, .bool x4] PT (0, 0)))) (fun W' h => ?_) ?_
                  · show (fun W' => Below wr.heap.size wr.drew W' ∧ ((dn 4 || ((2 : Nat) == 4)) = false → W'.heap.size = wr.heap.size) ∧ ((dn 4 || ((2 : Nat) == 4)) = true → (dn 6 || ((2 : Nat) == 6)) = false → W'.heap[wr.heap.size]? = some (.cells #[.int .i64 0, .int .i64 0, .string ⟨#[]⟩, .bool false] PT (0, 0))) ∧ ((dn 6 || ((2 : Nat) == 6)) = true → W'.heap[wr.heap.size]? = some (.cells #[.int .i64 x1, .int .i64 x2, .string x3, .bool x4] PT (0, 0)))) W'
                    rw [g4, g6]
                    exact h
                  clear g4 g6 e1 e2 e3
                  obtain rfl : l = [(0, 47), (1, 48)] := hl.symm.trans (by kernel_rfl)
                  have p0 : vs 0 = _ := hp 0 (by decide) (by decide)
                  have p1 : vs 1 = _ := hp 1 (by decide) (by decide)
                  clear hp hl
                  refine opgoal (_) (some 49) rfl rfl fun K hK => ?_
                  refine Runs.mk ?_
                  simp only [putAll]
                  go_simp
                  refine hK _ _ ?_ hS ⟨fun h => absurd h (by decide), fun h => absurd h (by decide), fun h4 h6 => ((fun w => trivial) W)⟩ _ rfl rfl
                  first | rfl | go_simp | simp
                · -- 3: Op.load 29 (Operand.tmp 49)
                  intro l hl vs W dn e1 e2 e3 hS hR hp
                  have f4 : dn 4 = dn 4 := rfl
                  have f6 : dn 6 = false := e3 6 (by kernel_rfl)
                  replace hS : (fun W' => Below wr.heap.size wr.drew W' ∧ ((dn 4) = false → W'.heap.size = wr.heap.size) ∧ ((dn 4) = true → (dn 6) = false → W'.heap[wr.heap.size]? = some (.cells #[.int .i64 0, .int .i64 0, .string ⟨#[]⟩, .bool false] PT (0, 0))) ∧ ((dn 6) = true → W'.heap[wr.heap.size]? = some (.cells #[.int .i64 x1, .int .i64 x2, .string x3, .bool x4] PT (0, 0)))) W := hS
                  rw [f6] at hS
                  have g4 : (dn 4 || ((3 : Nat) == 4)) = dn 4 := Bool.or_false _
                  have g6 : (dn 6 || ((3 : Nat) == 6)) = false := by rw [f6]; rfl
                  refine OpGoal.imp (S1 := fun W' => Below wr.heap.size wr.drew W' ∧ ((dn 4) = false → W'.heap.size = wr.heap.size) ∧ ((dn 4) = true → false = false → W'.heap[wr.heap.size]? = some (.cells #[.int .i64 0, .int .i64 0, .string ⟨#[]⟩, .bool false] PT (0, 0))) ∧ (false = true → W'.heap[wr.heap.size]? = some (.cells #[.int .i64 x1, .int .i64 x2, .string x3, .bool x4] PT (0, 0)))) (fun W' h => ?_) ?_
                  · show (fun W' => Below wr.heap.size wr.drew W' ∧ ((dn 4 || ((3 : Nat) == 4)) = false → W'.heap.size = wr.heap.size) ∧ ((dn 4 || ((3 : Nat) == 4)) = true → (dn 6 || ((3 : Nat) == 6)) = false → W'.heap[wr.heap.size]? = some (.cells #[.int .i64 0, .int .i64 0, .string ⟨#[]⟩, .bool false] PT (0, 0))) ∧ ((dn 6 || ((3 : Nat) == 6)) = true → W'.heap[wr.heap.size]? = some (.cells #[.int .i64 x1, .int .i64 x2, .string x3, .bool x4] PT (0, 0)))) W'
                    rw [g4, g6]
                    exact h
                  clear g4 g6 e1 e2 e3
                  obtain rfl : l = [(0, 47), (1, 48), (2, 49)] := hl.symm.trans (by kernel_rfl)
                  have p2 : vs 2 = _ := hp 2 (by decide) (by decide)
                  clear hp hl
                  refine opgoal (_) (some 50) rfl rfl fun K hK => ?_
                  have f0 := cell_below (w := wr.drew) hS.1 C0.out
                  have f1 := cell_below (w := wr.drew) hS.1 C1.out
                  have f2 := cell_below (w := wr.drew) hS.1 C2.out
                  have f3 := cell_below (w := wr.drew) hS.1 C3.out
                  refine Runs.mk ?_
                  simp only [putAll]
                  go_simp
                  refine hK _ _ ?_ hS ⟨fun h => absurd h (by decide), fun h => absurd h (by decide), fun h4 h6 => ((fun w => trivial) W)⟩ _ rfl rfl
                  first | rfl | go_simp | simp
                · -- 4: Op.alloc 29
                  intro l hl vs W dn e1 e2 e3 hS hR hp
                  have f4 : dn 4 = false := e1
                  have f6 : dn 6 = false := e3 6 (by kernel_rfl)
                  replace hS : (fun W' => Below wr.heap.size wr.drew W' ∧ ((dn 4) = false → W'.heap.size = wr.heap.size) ∧ ((dn 4) = true → (dn 6) = false → W'.heap[wr.heap.size]? = some (.cells #[.int .i64 0, .int .i64 0, .string ⟨#[]⟩, .bool false] PT (0, 0))) ∧ ((dn 6) = true → W'.heap[wr.heap.size]? = some (.cells #[.int .i64 x1, .int .i64 x2, .string x3, .bool x4] PT (0, 0)))) W := hS
                  rw [f4, f6] at hS
                  have g4 : (dn 4 || ((4 : Nat) == 4)) = true := by rw [f4]; rfl
                  have g6 : (dn 6 || ((4 : Nat) == 6)) = false := by rw [f6]; rfl
                  refine OpGoal.imp (S1 := fun W' => Below wr.heap.size wr.drew W' ∧ (true = false → W'.heap.size = wr.heap.size) ∧ (true = true → false = false → W'.heap[wr.heap.size]? = some (.cells #[.int .i64 0, .int .i64 0, .string ⟨#[]⟩, .bool false] PT (0, 0))) ∧ (false = true → W'.heap[wr.heap.size]? = some (.cells #[.int .i64 x1, .int .i64 x2, .string x3, .bool x4] PT (0, 0)))) (fun W' h => ?_) ?_
                  · show (fun W' => Below wr.heap.size wr.drew W' ∧ ((dn 4 || ((4 : Nat) == 4)) = false → W'.heap.size = wr.heap.size) ∧ ((dn 4 || ((4 : Nat) == 4)) = true → (dn 6 || ((4 : Nat) == 6)) = false → W'.heap[wr.heap.size]? = some (.cells #[.int .i64 0, .int .i64 0, .string ⟨#[]⟩, .bool false] PT (0, 0))) ∧ ((dn 6 || ((4 : Nat) == 6)) = true → W'.heap[wr.heap.size]? = some (.cells #[.int .i64 x1, .int .i64 x2, .string x3, .bool x4] PT (0, 0)))) W'
                    rw [g4, g6]
                    exact h
                  clear g4 g6 e1 e2 e3
                  obtain rfl : l = [] := hl.symm.trans (by kernel_rfl)
                  clear hp hl
                  refine opgoal (_) (some 12) rfl rfl fun K hK => ?_
                  refine Runs.mk ?_
                  simp only [putAll]
                  go_simp
                  have hsz := hS.2.1 rfl
                  refine hK _ _ (by first | rfl | (rw [hsz])) ⟨hS.1.trans ((below_alloc W _).mono (Nat.le_of_eq hsz.symm)), (fun h => by cases h), (fun _ _ => by rw [← hsz]; exact heap_alloc_new _ _), (fun h => by cases h)⟩ ⟨fun _ => trivial, fun h => absurd h (by decide), fun h4 h6 => absurd rfl h4⟩ _ rfl rfl
                · -- 5: Op.assign (Operand.const (Value.int IntKind.i64 0))
                  intro l hl vs W dn e1 e2 e3 hS hR hp
                  have f4 : dn 4 = true := e2 4 (by kernel_rfl)
                  have f6 : dn 6 = false := e3 6 (by kernel_rfl)
                  replace hS : (fun W' => Below wr.heap.size wr.drew W' ∧ ((dn 4) = false → W'.heap.size = wr.heap.size) ∧ ((dn 4) = true → (dn 6) = false → W'.heap[wr.heap.size]? = some (.cells #[.int .i64 0, .int .i64 0, .string ⟨#[]⟩, .bool false] PT (0, 0))) ∧ ((dn 6) = true → W'.heap[wr.heap.size]? = some (.cells #[.int .i64 x1, .int .i64 x2, .string x3, .bool x4] PT (0, 0)))) W := hS
                  rw [f4, f6] at hS
                  have g4 : (dn 4 || ((5 : Nat) == 4)) = true := by rw [f4]; rfl
                  have g6 : (dn 6 || ((5 : Nat) == 6)) = false := by rw [f6]; rfl
                  refine OpGoal.imp (S1 := fun W' => Below wr.heap.size wr.drew W' ∧ (true = false → W'.heap.size = wr.heap.size) ∧ (true = true → false = false → W'.heap[wr.heap.size]? = some (.cells #[.int .i64 0, .int .i64 0, .string ⟨#[]⟩, .bool false] PT (0, 0))) ∧ (false = true → W'.heap[wr.heap.size]? = some (.cells #[.int .i64 x1, .int .i64 x2, .string x3, .bool x4] PT (0, 0)))) (fun W' h => ?_) ?_
                  · show (fun W' => Below wr.heap.size wr.drew W' ∧ ((dn 4 || ((5 : Nat) == 4)) = false → W'.heap.size = wr.heap.size) ∧ ((dn 4 || ((5 : Nat) == 4)) = true → (dn 6 || ((5 : Nat) == 6)) = false → W'.heap[wr.heap.size]? = some (.cells #[.int .i64 0, .int .i64 0, .string ⟨#[]⟩, .bool false] PT (0, 0))) ∧ ((dn 6 || ((5 : Nat) == 6)) = true → W'.heap[wr.heap.size]? = some (.cells #[.int .i64 x1, .int .i64 x2, .string x3, .bool x4] PT (0, 0)))) W'
                    rw [g4, g6]
                    exact h
                  clear g4 g6 e1 e2 e3
                  obtain rfl : l = [(4, 12)] := hl.symm.trans (by kernel_rfl)
                  clear hp hl
                  refine opgoal (_) (some 11) rfl rfl fun K hK => ?_
                  refine Runs.mk ?_
                  simp only [putAll]
                  go_simp
                  refine hK _ _ ?_ hS ⟨fun h => absurd h (by decide), fun h => absurd h (by decide), fun h4 h6 => ((fun w => trivial) W)⟩ _ rfl rfl
                  first | rfl | go_simp | simp
                · -- 6: Op.store 29 (Operand.tmp 12) (Operand.tmp 50)
                  intro l hl vs W dn e1 e2 e3 hS hR hp
                  have f4 : dn 4 = true := e2 4 (by kernel_rfl)
                  have f6 : dn 6 = false := e1
                  replace hS : (fun W' => Below wr.heap.size wr.drew W' ∧ ((dn 4) = false → W'.heap.size = wr.heap.size) ∧ ((dn 4) = true → (dn 6) = false → W'.heap[wr.heap.size]? = some (.cells #[.int .i64 0, .int .i64 0, .string ⟨#[]⟩, .bool false] PT (0, 0))) ∧ ((dn 6) = true → W'.heap[wr.heap.size]? = some (.cells #[.int .i64 x1, .int .i64 x2, .string x3, .bool x4] PT (0, 0)))) W := hS
                  rw [f4, f6] at hS
                  have g4 : (dn 4 || ((6 : Nat) == 4)) = true := by rw [f4]; rfl
                  have g6 : (dn 6 || ((6 : Nat) == 6)) = true := by rw [f6]; rfl
                  refine OpGoal.imp (S1 := fun W' => Below wr.heap.size wr.drew W' ∧ (true = false → W'.heap.size = wr.heap.size) ∧ (true = true → true = false → W'.heap[wr.heap.size]? = some (.cells #[.int .i64 0, .int .i64 0, .string ⟨#[]⟩, .bool false] PT (0, 0))) ∧ (true = true → W'.heap[wr.heap.size]? = some (.cells #[.int .i64 x1, .int .i64 x2, .string x3, .bool x4] PT (0, 0)))) (fun W' h => ?_) ?_
                  · show (fun W' => Below wr.heap.size wr.drew W' ∧ ((dn 4 || ((6 : Nat) == 4)) = false → W'.heap.size = wr.heap.size) ∧ ((dn 4 || ((6 : Nat) == 4)) = true → (dn 6 || ((6 : Nat) == 6)) = false → W'.heap[wr.heap.size]? = some (.cells #[.int .i64 0, .int .i64 0, .string ⟨#[]⟩, .bool false] PT (0, 0))) ∧ ((dn 6 || ((6 : Nat) == 6)) = true → W'.heap[wr.heap.size]? = some (.cells #[.int .i64 x1, .int .i64 x2, .string x3, .bool x4] PT (0, 0)))) W'
                    rw [g4, g6]
                    exact h
                  clear g4 g6 e1 e2 e3
                  obtain rfl : l = [(0, 47), (1, 48), (2, 49), (3, 50), (4, 12), (5, 11)] := hl.symm.trans (by kernel_rfl)
                  have p3 : vs 3 = _ := hp 3 (by decide) (by decide)
                  have p4 : vs 4 = _ := hp 4 (by decide) (by decide)
                  clear hp hl
                  refine opgoal ({ dst := none, op := Op.store 29 (Operand.tmp 12) (Operand.tmp 50), type := 0, pos := "law.go:172", after := #[{ on := 4, ground := Ground.data }, { on := 3, ground := Ground.data }, { on := 5, ground := Ground.chain }, { on := 0, ground := Ground.phase }, { on := 1, ground := Ground.phase }, { on := 2, ground := Ground.phase }, { on := 3, ground := Ground.phase }, { on := 4, ground := Ground.phase }, { on := 5, ground := Ground.phase }], guard := none }) (none) rfl rfl fun K hK => ?_
                  refine runs_store_blk (wanted_none rfl) PT (.tmp 12) (.tmp 50) rfl wr.heap.size 0 (by simp [putAll, Act.put, Act.eval, p4]) PT _ (.agg #[.int .i64 x1, .int .i64 x2, .string x3, .bool x4]) (by simp [putAll, Act.put, Act.eval, p3]) (hS.2.2.1 rfl rfl) (by kernel_rfl) (by simp [Value.cells]) (by simp [Value.cells, Value.oneCell']) _ rfl ?_
                  intro w5 hg5 hu5
                  exact hK undef _ trivial ⟨hS.1.trans (hu5.below (Nat.le_refl _)), (fun h => by cases h), (fun _ h => by cases h), fun _ => hg5⟩ ⟨fun h => absurd h (by decide), fun _ => trivial, fun h4 h6 => absurd rfl h6⟩ _ put_dfs (by first | rfl | trivial | simp [slotIs])
              · intro l hl vs W dn hd hS hR hp
                replace hS : (fun W' => Below wr.heap.size wr.drew W' ∧ ((dn 4) = false → W'.heap.size = wr.heap.size) ∧ ((dn 4) = true → (dn 6) = false → W'.heap[wr.heap.size]? = some (.cells #[.int .i64 0, .int .i64 0, .string ⟨#[]⟩, .bool false] PT (0, 0))) ∧ ((dn 6) = true → W'.heap[wr.heap.size]? = some (.cells #[.int .i64 x1, .int .i64 x2, .string x3, .bool x4] PT (0, 0)))) W := hS
                rw [hd 4 (by decide), hd 6 (by decide)] at hS
                obtain rfl : l = [(0, 47), (1, 48), (2, 49), (3, 50), (4, 12), (5, 11)] := hl.symm.trans (by kernel_rfl)
                have p0 : vs 0 = _ := hp 0 (by decide) (by decide)
                have p1 : vs 1 = _ := hp 1 (by decide) (by decide)
                have p2 : vs 2 = _ := hp 2 (by decide) (by decide)
                have p3 : vs 3 = _ := hp 3 (by decide) (by decide)
                have p4 : vs 4 = _ := hp 4 (by decide) (by decide)
                have p5 : vs 5 = _ := hp 5 (by decide) (by decide)
                have p6 : (fun v W => True) (vs 6) W := hp 6 (by decide) (by decide)
                dsimp only at p6
                clear hp hl
                simp only [putAll_mk, setAll, List.setIfInBounds_toArray, List.set_cons_succ, List.set_cons_zero, p0, p1, p2, p3, p4, p5]
                have HB18 := Lib.hid hS.1
                have HX18 := Lib.hid (hS.2.2.2 rfl)
                clear hS hR p6
                obtain ⟨W8, hW8⟩ : ∃ W8, W = W8 := ⟨_, rfl⟩
                rw [hW8] at HB18 HX18 ⊢
                clear hW8
                go_wp2_with fail
                have hS0 : Below wr.heap.size wr W8.drew ∧ W8.drew.heap[wr.heap.size]? = some (.cells #[.int .i64 x1, .int .i64 x2, .string x3, .bool x4] PT (0, 0)) := ⟨(Below.of_drew HB18.out).trans ((below_drewN 1 W8).mono HB18.out.size), HX18.out⟩
                refine wp_region_last (fun W' => Below wr.heap.size wr W' ∧ W'.heap[wr.heap.size]? = some (.cells #[.int .i64 x1, .int .i64 x2, .string x3, .bool x4] PT (0, 0))) (fun u v => True) (fun k u v => ((k = 12) → (fun u v => True) u v) ∧ (¬ (k = 12) → (fun u v => True) u v)) (fun a i => match i with
                    | 0 => (fun v _ => v = .pointer (some ⟨b, 0, none⟩))
                    | 1 => (fun v _ => v = .int .i64 (l : Int))
                    | 2 => (fun v _ => v = .int .i64 (rl : Int))
                    | 3 => (fun v _ => v = .slice (some ⟨ug, uo, none⟩) m uc)
                    | 4 => (fun v _ => v = .slice (some ⟨ug, uo, none⟩) m uc)
                    | 5 => (fun v _ => v = .int .i64 (m : Int))
                    | 6 => (fun v _ => v = .int .i64 (m1 : Int))
                    | 7 => (fun v _ => v = .int .i64 (jx : Int))
                    | 8 => (fun v _ => v = .int .i64 (rx : Int))
                    | 9 => (fun v _ => v = .pointer (some ⟨ug, uo + rx * 4, none⟩))
                    | 10 => (fun v _ => v = .agg #[.int .i64 y1, .int .i64 y2, .string y3, .bool y4])
                    | 11 => (fun v _ => v = .int .i64 (rl : Int))
                    | 12 => (fun v W' => Below wr.heap.size wr W' ∧ W'.heap[wr.heap.size]? = some (.cells #[.int .i64 y1, .int .i64 y2, .string y3, .bool y4] PT (0, 0)))
                    | _ => (fun _ _ => True)) #[0, 1, 3, 0, 0, 16, 48, 0, 240, 504, 1016, 7, 4095] #[0, 1, 2, 0, 0, 16, 32, 0, 192, 264, 512, 4, 1024] 8191 12 (by kernel_rfl) 13 rfl (by kernel_rfl) (fun m hm => by subst hm; kernel_rfl) (by kernel_rfl) (fun w => trivial) (fun u v w h1 h2 => trivial) ?_ ?_ (hS0) ?_ ?_
                · intro k u v hk hr
                  by_cases hs : k = 12
                  · have h := hr.1 hs; exact trivial
                  · have h := hr.2 hs; exact trivial
                · intro i hi hiz
                  rcases (by omega : i = 0 ∨ i = 1 ∨ i = 2 ∨ i = 3 ∨ i = 4 ∨ i = 5 ∨ i = 6 ∨ i = 7 ∨ i = 8 ∨ i = 9 ∨ i = 10 ∨ i = 11 ∨ i = 12) with rfl | rfl | rfl | rfl | rfl | rfl | rfl | rfl | rfl | rfl | rfl | rfl | rfl
                  · intro k hk q hq hqt v w w' h hr
                    by_cases hs : k = 12
                    · have hr0 := hr.1 hs
                      rcases hs with rfl
                      · exact (fun (h : _) (hr : _) => by exact h) h hr0
                    · have hr := hr.2 hs
                      exact h
                  · intro k hk q hq hqt v w w' h hr
                    by_cases hs : k = 12
                    · have hr0 := hr.1 hs
                      rcases hs with rfl
                      · exact (fun (h : _) (hr : _) => by exact h) h hr0
                    · have hr := hr.2 hs
                      exact h
                  · intro k hk q hq hqt v w w' h hr
                    by_cases hs : k = 12
                    · have hr0 := hr.1 hs
                      rcases hs with rfl
                      · exact (fun (h : _) (hr : _) => by exact h) h hr0
                    · have hr := hr.2 hs
                      exact h
                  · intro k hk q hq hqt v w w' h hr
                    by_cases hs : k = 12
                    · have hr0 := hr.1 hs
                      rcases hs with rfl
                      · exact (fun (h : _) (hr : _) => by exact h) h hr0
                    · have hr := hr.2 hs
                      exact h
                  · intro k hk q hq hqt v w w' h hr
                    by_cases hs : k = 12
                    · have hr0 := hr.1 hs
                      rcases hs with rfl
                      · exact (fun (h : _) (hr : _) => by exact h) h hr0
                    · have hr := hr.2 hs
                      exact h
                  · intro k hk q hq hqt v w w' h hr
                    by_cases hs : k = 12
                    · have hr0 := hr.1 hs
                      rcases hs with rfl
                      · exact (fun (h : _) (hr : _) => by exact h) h hr0
                    · have hr := hr.2 hs
                      exact h
                  · intro k hk q hq hqt v w w' h hr
                    by_cases hs : k = 12
                    · have hr0 := hr.1 hs
                      rcases hs with rfl
                      · exact (fun (h : _) (hr : _) => by exact h) h hr0
                    · have hr := hr.2 hs
                      exact h
                  · intro k hk q hq hqt v w w' h hr
                    by_cases hs : k = 12
                    · have hr0 := hr.1 hs
                      rcases hs with rfl
                      · exact (fun (h : _) (hr : _) => by exact h) h hr0
                    · have hr := hr.2 hs
                      exact h
                  · intro k hk q hq hqt v w w' h hr
                    by_cases hs : k = 12
                    · have hr0 := hr.1 hs
                      rcases hs with rfl
                      · exact (fun (h : _) (hr : _) => by exact h) h hr0
                    · have hr := hr.2 hs
                      exact h
                  · intro k hk q hq hqt v w w' h hr
                    by_cases hs : k = 12
                    · have hr0 := hr.1 hs
                      rcases hs with rfl
                      · exact (fun (h : _) (hr : _) => by exact h) h hr0
                    · have hr := hr.2 hs
                      exact h
                  · intro k hk q hq hqt v w w' h hr
                    by_cases hs : k = 12
                    · have hr0 := hr.1 hs
                      rcases hs with rfl
                      · exact (fun (h : _) (hr : _) => by exact h) h hr0
                    · have hr := hr.2 hs
                      exact h
                  · intro k hk q hq hqt v w w' h hr
                    by_cases hs : k = 12
                    · have hr0 := hr.1 hs
                      rcases hs with rfl
                      · exact (fun (h : _) (hr : _) => by exact h) h hr0
                    · have hr := hr.2 hs
                      exact h
                  · exact absurd rfl hiz
                · intro i hi
                  rcases (by omega : i = 0 ∨ i = 1 ∨ i = 2 ∨ i = 3 ∨ i = 4 ∨ i = 5 ∨ i = 6 ∨ i = 7 ∨ i = 8 ∨ i = 9 ∨ i = 10 ∨ i = 11 ∨ i = 12) with rfl | rfl | rfl | rfl | rfl | rfl | rfl | rfl | rfl | rfl | rfl | rfl | rfl
                  · -- 0: Op.move (Operand.tmp 5)
                    intro l hl vs W hS hR hp
                    obtain rfl : l = [] := hl.symm.trans (by kernel_rfl)
                    clear hp hl
                    refine opgoal (_) (some 52) rfl rfl fun K hK => ?_
                    refine Runs.mk ?_
                    simp only [putAll]
                    go_simp
                    refine hK _ _ ?_ (fun _ => hS) ⟨fun h => absurd h (by decide), fun _ => ((fun w => trivial) W)⟩ _ rfl rfl
                    first | rfl | go_simp | simp
                  · -- 1: Op.call { callee := Callee.value (Operand.func 18), args := #[Operand.tmp 52], argTypes := #[24] }
                    intro l hl vs W hS hR hp
                    obtain rfl : l = [(0, 52)] := hl.symm.trans (by kernel_rfl)
                    have p0 : vs 0 = _ := hp 0 (by decide) (by decide)
                    clear hp hl
                    refine opgoal (_) (some 53) rfl rfl fun K hK => ?_
                    refine Runs.mk ?_
                    simp only [putAll]
                    go_simp
                    refine (od_len HOD.out hS.1).mono ?_
                    rintro e w' ⟨rfl, rfl⟩
                    rw [HLL.out]
                    go_simp
                    exact hK _ _ rfl (fun _ => hS) ⟨fun h => absurd h (by decide), fun _ => trivial⟩ _ rfl rfl
                  · -- 2: Op.binOp BinOp.sub 3 (Operand.tmp 53) (Operand.const (Value.int IntKind.i64 1)) 3
                    intro l hl vs W hS hR hp
                    obtain rfl : l = [(0, 52), (1, 53)] := hl.symm.trans (by kernel_rfl)
                    have p1 : vs 1 = _ := hp 1 (by decide) (by decide)
                    clear hp hl
                    refine opgoal (_) (some 54) rfl rfl fun K hK => ?_
                    have hq := HW1.out
                    refine Runs.mk ?_
                    simp only [putAll]
                    go_simp
                    refine hK _ _ ?_ (fun _ => hS) ⟨fun h => absurd h (by decide), fun _ => ((fun w => trivial) W)⟩ _ rfl rfl
                    first | rfl | go_simp | simp
                  · -- 3: Op.move (Operand.tmp 7)
                    intro l hl vs W hS hR hp
                    obtain rfl : l = [] := hl.symm.trans (by kernel_rfl)
                    clear hp hl
                    refine opgoal (_) (some 55) rfl rfl fun K hK => ?_
                    refine Runs.mk ?_
                    simp only [putAll]
                    go_simp
                    refine hK _ _ ?_ (fun _ => hS) ⟨fun h => absurd h (by decide), fun _ => ((fun w => trivial) W)⟩ _ rfl rfl
                    first | rfl | go_simp | simp
                  · -- 4: Op.move (Operand.tmp 7)
                    intro l hl vs W hS hR hp
                    obtain rfl : l = [] := hl.symm.trans (by kernel_rfl)
                    clear hp hl
                    refine opgoal (_) (some 56) rfl rfl fun K hK => ?_
                    refine Runs.mk ?_
                    simp only [putAll]
                    go_simp
                    refine hK _ _ ?_ (fun _ => hS) ⟨fun h => absurd h (by decide), fun _ => ((fun w => trivial) W)⟩ _ rfl rfl
                    first | rfl | go_simp | simp
                  · -- 5: Op.call { callee := Callee.builtin Builtin.len, args := #[Operand.tmp 56], argTypes := #[22] }
                    intro l hl vs W hS hR hp
                    obtain rfl : l = [(4, 56)] := hl.symm.trans (by kernel_rfl)
                    have p4 : vs 4 = _ := hp 4 (by decide) (by decide)
                    clear hp hl
                    refine opgoal (_) (some 57) rfl rfl fun K hK => ?_
                    refine Runs.mk ?_
                    simp only [putAll]
                    go_simp
                    refine hK _ _ ?_ (fun _ => hS) ⟨fun h => absurd h (by decide), fun _ => ((fun w => trivial) W)⟩ _ rfl rfl
                    first | rfl | go_simp | simp
                  · -- 6: Op.binOp BinOp.sub 3 (Operand.tmp 57) (Operand.const (Value.int IntKind.i64 1)) 3
                    intro l hl vs W hS hR hp
                    obtain rfl : l = [(4, 56), (5, 57)] := hl.symm.trans (by kernel_rfl)
                    have p5 : vs 5 = _ := hp 5 (by decide) (by decide)
                    clear hp hl
                    refine opgoal (_) (some 58) rfl rfl fun K hK => ?_
                    have hq := HW2.out
                    refine Runs.mk ?_
                    simp only [putAll]
                    go_simp
                    refine hK _ _ ?_ (fun _ => hS) ⟨fun h => absurd h (by decide), fun _ => ((fun w => trivial) W)⟩ _ rfl rfl
                    first | rfl | go_simp | simp
                  · -- 7: Op.move (Operand.tmp 10)
                    intro l hl vs W hS hR hp
                    obtain rfl : l = [] := hl.symm.trans (by kernel_rfl)
                    clear hp hl
                    refine opgoal (_) (some 59) rfl rfl fun K hK => ?_
                    refine Runs.mk ?_
                    simp only [putAll]
                    go_simp
                    refine hK _ _ ?_ (fun _ => hS) ⟨fun h => absurd h (by decide), fun _ => ((fun w => trivial) W)⟩ _ rfl rfl
                    first | rfl | go_simp | simp
                  · -- 8: Op.binOp BinOp.sub 3 (Operand.tmp 58) (Operand.tmp 59) 3
                    intro l hl vs W hS hR hp
                    obtain rfl : l = [(4, 56), (5, 57), (6, 58), (7, 59)] := hl.symm.trans (by kernel_rfl)
                    have p6 : vs 6 = _ := hp 6 (by decide) (by decide)
                    have p7 : vs 7 = _ := hp 7 (by decide) (by decide)
                    clear hp hl
                    refine opgoal (_) (some 60) rfl rfl fun K hK => ?_
                    have hq := HW3.out
                    refine Runs.mk ?_
                    simp only [putAll]
                    go_simp
                    refine hK _ _ ?_ (fun _ => hS) ⟨fun h => absurd h (by decide), fun _ => ((fun w => trivial) W)⟩ _ rfl rfl
                    first | rfl | go_simp | simp
                  · -- 9: Op.indexAddr 22 (Operand.tmp 55) (Operand.tmp 60)
                    intro l hl vs W hS hR hp
                    obtain rfl : l = [(3, 55), (4, 56), (5, 57), (6, 58), (7, 59), (8, 60)] := hl.symm.trans (by kernel_rfl)
                    have p3 : vs 3 = _ := hp 3 (by decide) (by decide)
                    have p8 : vs 8 = _ := hp 8 (by decide) (by decide)
                    clear hp hl
                    refine opgoal (_) (some 61) rfl rfl fun K hK => ?_
                    have hrx := HRX.out
                    refine Runs.mk ?_
                    simp only [putAll]
                    go_simp
                    refine hK _ _ ?_ (fun _ => hS) ⟨fun h => absurd h (by decide), fun _ => ((fun w => trivial) W)⟩ _ rfl rfl
                    first | rfl | go_simp | simp
                  · -- 10: Op.load 29 (Operand.tmp 61)
                    intro l hl vs W hS hR hp
                    obtain rfl : l = [(3, 55), (4, 56), (5, 57), (6, 58), (7, 59), (8, 60), (9, 61)] := hl.symm.trans (by kernel_rfl)
                    have p9 : vs 9 = _ := hp 9 (by decide) (by decide)
                    clear hp hl
                    refine opgoal (_) (some 62) rfl rfl fun K hK => ?_
                    have f0 := cell_below hS.1 D0.out
                    have f1 := cell_below hS.1 D1.out
                    have f2 := cell_below hS.1 D2.out
                    have f3 := cell_below hS.1 D3.out
                    refine Runs.mk ?_
                    simp only [putAll]
                    go_simp
                    refine hK _ _ ?_ (fun _ => hS) ⟨fun h => absurd h (by decide), fun _ => ((fun w => trivial) W)⟩ _ rfl rfl
                    first | rfl | go_simp | simp
                  · -- 11: Op.assign (Operand.tmp 54)
                    intro l hl vs W hS hR hp
                    obtain rfl : l = [(0, 52), (1, 53), (2, 54)] := hl.symm.trans (by kernel_rfl)
                    have p2 : vs 2 = _ := hp 2 (by decide) (by decide)
                    clear hp hl
                    refine opgoal (_) (some 11) rfl rfl fun K hK => ?_
                    refine Runs.mk ?_
                    simp only [putAll]
                    go_simp
                    refine hK _ _ ?_ (fun _ => hS) ⟨fun h => absurd h (by decide), fun _ => ((fun w => trivial) W)⟩ _ rfl rfl
                    first | rfl | go_simp | simp
                  · -- 12: Op.store 29 (Operand.tmp 12) (Operand.tmp 62)
                    intro l hl vs W hS hR hp
                    obtain rfl : l = [(0, 52), (1, 53), (2, 54), (3, 55), (4, 56), (5, 57), (6, 58), (7, 59), (8, 60), (9, 61), (10, 62), (11, 11)] := hl.symm.trans (by kernel_rfl)
                    have p10 : vs 10 = _ := hp 10 (by decide) (by decide)
                    clear hp hl
                    refine opgoal ({ dst := none, op := Op.store 29 (Operand.tmp 12) (Operand.tmp 62), type := 0, pos := "law.go:174", after := #[{ on := 10, ground := Ground.data }, { on := 11, ground := Ground.chain }, { on := 0, ground := Ground.phase }, { on := 1, ground := Ground.phase }, { on := 2, ground := Ground.phase }, { on := 3, ground := Ground.phase }, { on := 4, ground := Ground.phase }, { on := 5, ground := Ground.phase }, { on := 6, ground := Ground.phase }, { on := 7, ground := Ground.phase }, { on := 8, ground := Ground.phase }, { on := 9, ground := Ground.phase }, { on := 10, ground := Ground.phase }, { on := 11, ground := Ground.phase }], guard := none }) (none) rfl rfl fun K hK => ?_
                    refine runs_store_blk (wanted_none rfl) PT (.tmp 12) (.tmp 62) rfl wr.heap.size 0 (by simp [putAll, Act.put, Act.eval]) PT _ (.agg #[.int .i64 y1, .int .i64 y2, .string y3, .bool y4]) (by simp [putAll, Act.put, Act.eval, p10]) hS.2 (by kernel_rfl) (by simp [Value.cells]) (by simp [Value.cells, Value.oneCell']) _ rfl ?_
                    intro w5 hg5 hu5
                    exact hK undef _ ⟨hS.1.trans (hu5.below (Nat.le_refl _)), hg5⟩ (fun h => absurd rfl h) ⟨fun _ => trivial, fun h => absurd (by decide) h⟩ _ put_dfs (by first | rfl | trivial | simp [slotIs])
                · intro l hl vs W hR hp
                  obtain rfl : l = [(0, 52), (1, 53), (2, 54), (3, 55), (4, 56), (5, 57), (6, 58), (7, 59), (8, 60), (9, 61), (10, 62), (11, 11)] := hl.symm.trans (by kernel_rfl)
                  have p0 : vs 0 = _ := hp 0 (by decide) (by decide)
                  have p1 : vs 1 = _ := hp 1 (by decide) (by decide)
                  have p2 : vs 2 = _ := hp 2 (by decide) (by decide)
                  have p3 : vs 3 = _ := hp 3 (by decide) (by decide)
                  have p4 : vs 4 = _ := hp 4 (by decide) (by decide)
                  have p5 : vs 5 = _ := hp 5 (by decide) (by decide)
                  have p6 : vs 6 = _ := hp 6 (by decide) (by decide)
                  have p7 : vs 7 = _ := hp 7 (by decide) (by decide)
                  have p8 : vs 8 = _ := hp 8 (by decide) (by decide)
                  have p9 : vs 9 = _ := hp 9 (by decide) (by decide)
                  have p10 : vs 10 = _ := hp 10 (by decide) (by decide)
                  have p11 : vs 11 = _ := hp 11 (by decide) (by decide)
                  have p12 : (fun v W' => Below wr.heap.size wr W' ∧ W'.heap[wr.heap.size]? = some (.cells #[.int .i64 y1, .int .i64 y2, .string y3, .bool y4] PT (0, 0))) (vs 12) W := hp 12 (by decide) (by decide)
                  dsimp only at p12
                  clear hp hl
                  simp only [putAll_mk, setAll, List.setIfInBounds_toArray, List.set_cons_succ, List.set_cons_zero, p0, p1, p2, p3, p4, p5, p6, p7, p8, p9, p10, p11]
                  have HB20 := Lib.hid p12.1
                  have HX20 := Lib.hid p12.2
                  clear p12 hR
                  go_wp2_with fail
                  refine (od_take HOD.out (HB20.out) rl HI0.out HSM.out wr.heap.size (Nat.le_refl _) _ HX20.out).mono ?_
                  rintro e w5 ⟨rfl, hod5, hx5⟩
                  rw [HPK.out]
                  have hal5 := below_alloc w5 (.cells #[.int .i64 y1, .int .i64 y2, .string y3, .bool y4] PT)
                  obtain ⟨f0, f1, f2, f3⟩ := pk_cells hx5
                  have g0 : ∀ o, (w5.alloc o).cell? ⟨wr.heap.size, 0, none⟩ = some (.int .i64 y1) := fun o => cell_below (below_alloc w5 o) f0
                  have g1 : ∀ o, (w5.alloc o).cell? ⟨wr.heap.size, 1, none⟩ = some (.int .i64 y2) := fun o => cell_below (below_alloc w5 o) f1
                  have g2 : ∀ o, (w5.alloc o).cell? ⟨wr.heap.size, 2, none⟩ = some (.string y3) := fun o => cell_below (below_alloc w5 o) f2
                  have g3 : ∀ o, (w5.alloc o).cell? ⟨wr.heap.size, 3, none⟩ = some (.bool y4) := fun o => cell_below (below_alloc w5 o) f3
                  have HOD5 := Lib.hid (hod5.below hal5)
                  have heq := pk_eq y1 y2 y3 y4
                  have hg := pk_guard
                  clear hod5 hx5 hal5 f0 f1 f2 f3
                  go_wp2_with fail
                  go_roundw
                  case rel => exact ⟨jx + 1, by omega, by go_num, by have hh := HOD5.out; rw [HNXT.out] at hh; first | exact hh | simpa using hh⟩
                  case measure => simp [intOf]; omega
          · obtain rfl : jx = m := by omega
            have e : (if back then Ls.take (jx - jx) else Ls.drop jx) = [] := by
              cases back
              · simp only [Bool.false_eq_true, if_false]; exact List.drop_eq_nil_of_le (by rw [HMM.out]; exact Nat.le_refl _)
              · simp
            rw [e] at hod
            have HLN := Lib.hid (od_len hod (Below.refl _ _))
            have HBL := Lib.hid hod.bel
            clear hod e
            simp only [List.length_nil] at HLN
            go_wp2_with fail
            refine HLN.out.mono ?_
            rintro e w5 ⟨rfl, rfl⟩
            go_wp2
            go_ret
            exact ⟨rfl, HBL.out⟩
theorem order_row (w : World) (s : Sl Pkt) (q : Bool) (h : SlOk w 4 40 encP goodP s) : Calls Try.prog 3 #[.slice s.A s.n s.c, .bool q] w fun e w' => e = .returned (.bool true) ∧ Below w.heap.size w w' :=
  order_walk w s.A s.n s.c s.xs q (rdE_of h) fun p hp => (h.2.2.2.2.2.1 p hp).1
theorem opens_pkts (W : World) : Opens Try.prog W 22 (fun s : Sl Pkt => [.slice s.A s.n s.c]) (SlOk W 4 40 encP goodP) :=
  opens_slice Try.underlying22 (by kernel_rfl) (by omega) (by kernel_rfl) (opens_pkt W)
end Go.Proofs.Ytbdcgfdchkbcnaa.Ne

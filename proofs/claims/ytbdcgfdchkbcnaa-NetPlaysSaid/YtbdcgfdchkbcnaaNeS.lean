/- net: the document's memory; its New, right, cut; Same, Plain. -/
import Derived.Test.YtbdcgfdchkbcnaaNeP
import Derived.Test.YtbdcgfdchkbcnaaD
namespace Go.Proofs.Ytbdcgfdchkbcnaa.Ne
open Go.RowKit Go.Proofs.Ytbdcgfdchkbcnaa.L Go.Proofs.Ytbdcgfdchkbcnaa.O Go.Proofs.Ytbdcgfdchkbcnaa.R Go.Proofs.Ytbdcgfdchkbcnaa.A Go.Proofs.Ytbdcgfdchkbcnaa.S Go.Proofs.Ytbdcgfdchkbcnaa.T Go.Proofs.Ytbdcgfdchkbcnaa.C Go.Proofs.Ytbdcgfdchkbcnaa.G Go.Proofs.Ytbdcgfdchkbcnaa.E
set_option linter.unusedVariables false
set_option linter.unusedSimpArgs false

abbrev DNT : TypeId := 56
abbrev DPT : TypeId := 49
abbrev AT2 : TypeId := 110
def encC (c : Int × Int) : List Value := [.int .i64 c.1, .int .i64 c.2]
theorem encC_len (c : Int × Int) : (encC c).length = 2 := rfl
structure Dd (W : World) (d nodes : Nat) (vL : Value) (Ls : List Pkt) (vC : Value) (cs : List (Int × Int)) : Prop where
  blk : W.heap[d]? = some (.cells #[.int .i64 nodes, vL, vC] DNT (0, 0))
  own : W.ownsRow (d + 1) DPT 4 vL Ls.length (Ls.flatMap encP)
  cut : W.ownsRow (d + 1) AT2 2 vC cs.length (cs.flatMap encC)
section
variable {W W' : World} {d nodes : Nat} {vL vC : Value} {Ls : List Pkt} {cs : List (Int × Int)}
theorem Dd.below (h : Dd W d nodes vL Ls vC cs) (hb : Below W.heap.size W W') : Dd W' d nodes vL Ls vC cs :=
  ⟨keep_block (.of_below (S := []) hb) h.blk (by simp), own_kept h.own hb, own_kept h.cut hb⟩
theorem Dd.cell (h : Dd W d nodes vL Ls vC cs) : W.cell? ⟨d, 0, none⟩ = some (.int .i64 nodes) ∧ W.cell? ⟨d, 1, none⟩ = some vL ∧ W.cell? ⟨d, 2, none⟩ = some vC ∧ W.frozen? ⟨d, 1, none⟩ = false ∧ W.frozen? ⟨d, 2, none⟩ = false :=
  ⟨by rw [cell_of_row W d 0 _ _ _ h.blk]; rfl, by rw [cell_of_row W d 1 _ _ _ h.blk]; rfl, by rw [cell_of_row W d 2 _ _ _ h.blk]; rfl, frozen_of_row W d 1 _ _ h.blk, frozen_of_row W d 2 _ _ h.blk⟩
theorem Dd.lt (h : Dd W d nodes vL Ls vC cs) : d < W.heap.size := (Array.getElem?_eq_some_iff.1 h.blk).1
end
theorem cut_at {w : World} {A : Option Addr} {n : Nat} {L : List (Int × Int)} (h : RdE w A n 2 (L.map encC)) (k : Nat) (hk : k < n) (hl : k < L.length) (x : Int × Int) (hx : L[k] = x) :
    ∃ b o, A = some ⟨b, o, none⟩ ∧ w.cell? ⟨b, o + k * 2, none⟩ = some (.int .i64 x.1) ∧ w.cell? ⟨b, o + k * 2 + 1, none⟩ = some (.int .i64 x.2) := by
  obtain ⟨b, o, hA, hl', hc⟩ := h.at k hk
  subst hx
  exact ⟨b, o, hA, hc 0 (by decide), hc 1 (by decide)⟩
theorem net_bad (nodes : Int) (w : World) (h : nodes < 1 ∨ 16 < nodes) :
    Calls Try.prog 16 #[.int .i64 nodes] w fun e w' => e = .returned (.tuple #[.pointer none, .int .i64 1]) ∧ w = w' := by
  by_cases h1 : nodes < 1
  · have hd1 : decide (nodes < 1) = true := by simpa using h1
    go_enter Try.func16, Try.ntmps16
    go_wp2
    refine bodyPost_ret (v := .tuple #[.pointer none, .int .i64 1]) (by simp [results, Try.results16, go_sem]) rfl ?_
    exact ⟨rfl, rfl⟩
  · have hd1 : decide (nodes < 1) = false := by simpa using h1
    have hd2 : decide (16 < nodes) = true := by simp; omega
    go_enter Try.func16, Try.ntmps16
    go_wp2
    refine bodyPost_ret (v := .tuple #[.pointer none, .int .i64 1]) (by simp [results, Try.results16, go_sem]) rfl ?_
    exact ⟨rfl, rfl⟩
theorem dnew_bad (nodes : Int) (w : World) (h : nodes < 1 ∨ 16 < nodes) :
    Calls Try.prog 25 #[.int .i64 nodes] w fun e w' => e = .returned (.pointer none) ∧ w = w' := by
  by_cases h1 : nodes < 1
  · have hd1 : decide (nodes < 1) = true := by simpa using h1
    go_enter Try.func25, Try.ntmps25
    go_wp2
    go_ret
    exact ⟨rfl, rfl⟩
  · have hd1 : decide (nodes < 1) = false := by simpa using h1
    have hd2 : decide (16 < nodes) = true := by simp; omega
    go_enter Try.func25, Try.ntmps25
    go_wp2
    go_ret
    exact ⟨rfl, rfl⟩
theorem dnew_ok (nodes : Nat) (w : World) (h1 : 0 < nodes) (h2 : nodes ≤ 16) :
    Calls Try.prog 25 #[.int .i64 nodes] w fun e w' => e = .returned (.pointer (some ⟨w.heap.size, 0, none⟩)) ∧ Dd w' w.heap.size nodes (.slice none 0 0) [] (.slice none 0 0) [] ∧ Below w.heap.size w w' := by
  have hd1 : decide ((nodes : Int) < 1) = false := by simp; omega
  have hd2 : decide ((16 : Int) < (nodes : Int)) = false := by simp; omega
  have hb := Lib.hid (below_alloc w (.cells #[.int .i64 nodes, .slice none 0 0, .slice none 0 0] DNT))
  have hg := Lib.hid (heap_alloc_new w (.cells #[.int .i64 nodes, .slice none 0 0, .slice none 0 0] DNT))
  go_enter Try.func25, Try.ntmps25
  go_wp2
  go_ret
  exact ⟨rfl, ⟨hg.out, World.ownsRow_nil _ _ _ _, World.ownsRow_nil _ _ _ _⟩, hb.out⟩
set_option maxHeartbeats 4000000 in
theorem right_any (d nodes : Nat) (x y : Int) (w : World) (hc : w.cell? ⟨d, 0, none⟩ = some (.int .i64 nodes)) :
    Calls Try.prog 68 #[.pointer (some ⟨d, 0, none⟩), .int .i64 x, .int .i64 y] w fun e w' => e = .returned (.bool (okW nodes x y)) ∧ w = w' := by
  have ho : okW nodes x y = ((x != y) && decide (0 < x) && decide (0 < y) && decide (x ≤ (nodes : Int)) && decide (y ≤ (nodes : Int))) := by
    unfold okW
    rw [show decide (1 ≤ x) = decide (0 < x) from decide_eq_decide.2 (by omega), show decide (1 ≤ y) = decide (0 < y) from decide_eq_decide.2 (by omega), show decide (x ≠ y) = (x != y) from Bool.eq_iff_iff.2 (by simp)]
  rw [ho]
  clear ho
  obtain ⟨b1, e1⟩ : ∃ b1, (x != y) = b1 := ⟨_, rfl⟩
  obtain ⟨b2, e2⟩ : ∃ b, decide (0 < x) = b := ⟨_, rfl⟩
  obtain ⟨b3, e3⟩ : ∃ b, decide (0 < y) = b := ⟨_, rfl⟩
  obtain ⟨b4, e4⟩ : ∃ b, decide (x ≤ (nodes : Int)) = b := ⟨_, rfl⟩
  obtain ⟨b5, e5⟩ : ∃ b, decide (y ≤ (nodes : Int)) = b := ⟨_, rfl⟩
  rw [e1, e2, e3, e4, e5]
  cases b1
  · clear e2 e3 e4 e5
    go_enter Try.func68, Try.ntmps68
    go_wp2
    go_ret
    exact ⟨rfl, rfl⟩
  · cases b2
    · clear e3 e4 e5
      go_enter Try.func68, Try.ntmps68
      go_wp2
      go_ret
      exact ⟨rfl, rfl⟩
    · cases b3
      · clear e4 e5
        go_enter Try.func68, Try.ntmps68
        go_wp2
        go_ret
        exact ⟨rfl, rfl⟩
      · cases b4
        · clear e5
          go_enter Try.func68, Try.ntmps68
          go_wp2
          go_ret
          exact ⟨rfl, rfl⟩
        · cases b5
          · go_enter Try.func68, Try.ntmps68
            go_wp2
            go_ret
            exact ⟨rfl, rfl⟩
          · go_enter Try.func68, Try.ntmps68
            go_wp2
            go_ret
            exact ⟨rfl, rfl⟩
def cutB (x y : Int) (c : Int × Int) : Bool := (c.1 == x && c.2 == y) || (c.1 == y && c.2 == x)
def cutL (cs : List (Int × Int)) (x y : Int) : Bool := cs.any (cutB x y)
theorem cutL_true {cs : List (Int × Int)} {x y : Int} {k : Nat} (hk : k < cs.length) (h : cutB x y cs[k] = true) : cutL cs x y = true := List.any_eq_true.2 ⟨_, List.getElem_mem hk, h⟩
theorem cutL_false {cs : List (Int × Int)} {x y : Int} (h : ∀ j, (h : j < cs.length) → cutB x y cs[j] = false) : cutL cs x y = false := by
  unfold cutL
  rw [List.any_eq_false]
  intro c hc
  obtain ⟨j, hj, rfl⟩ := List.getElem_of_mem hc
  rw [h j hj]; simp
set_option maxHeartbeats 16000000 in
set_option maxRecDepth 100000 in
theorem dcut_any (d nodes : Nat) (vL vC : Value) (Ls : List Pkt) (cs : List (Int × Int)) (x y : Int) (w : World) (h : Dd w d nodes vL Ls vC cs) (hsm : cs.length ≤ 1000000) :
    Calls Try.prog 69 #[.pointer (some ⟨d, 0, none⟩), .int .i64 x, .int .i64 y] w fun e w' => e = .returned (.bool (cutL cs x y)) ∧ Below w.heap.size w w' := by
  obtain ⟨A, cp, rfl, hr, _, _⟩ := own_rdE h.cut encC_len rfl
  obtain ⟨n, hn⟩ : ∃ n, cs.length = n := ⟨_, rfl⟩
  have hcell := h.cell.2.2.1
  rw [hn] at hr hsm hcell
  have HR := Lib.hid hr
  have HL := Lib.hid hn
  have HC := Lib.hid hcell
  obtain ⟨r, hres⟩ : ∃ r, Hid (cutL cs x y = r) := ⟨_, Lib.hid rfl⟩
  rw [hres.out]
  clear hr h hn hcell
  go_enter Try.func69, Try.ntmps69
  go_wp2
  go_loopw [7] (fun i wr => ∃ k : Nat, k ≤ n ∧ i = .int .i64 k ∧ Below w.heap.size w wr ∧ Hid (∀ j, (h : j < cs.length) → j < k → cutB x y cs[j] = false)) (fun i _ => n - (intOf i).toNat)
  case atStart => exact ⟨0, by omega, rfl, Below.refl _ _, Lib.hid fun j _ h => absurd h (by omega)⟩
  case round =>
    obtain ⟨k, hk, rfl, hb, hnot⟩ := hrel
    have hcell := cell_below hb HC.out
    by_cases hlt : k < n
    · have hkl : k < cs.length := by have := HL.out; omega
      obtain ⟨⟨z1, z2⟩, hz⟩ : ∃ z : Int × Int, Hid (cs[k] = z) := ⟨_, Lib.hid rfl⟩
      obtain ⟨ab, ao, hA, c0, c1⟩ := cut_at (HR.out.below hb) k hlt hkl _ hz.out
      subst hA
      dsimp only at c0 c1
      have hB0 : Hid (cutB x y (z1, z2) = ((z1 == x && z2 == y) || (z1 == y && z2 == x))) := Lib.hid rfl
      obtain ⟨b1, e1⟩ : ∃ b, (z1 == x) = b := ⟨_, rfl⟩
      obtain ⟨b2, e2⟩ : ∃ b, (z2 == y) = b := ⟨_, rfl⟩
      obtain ⟨b3, e3⟩ : ∃ b, (z1 == y) = b := ⟨_, rfl⟩
      obtain ⟨b4, e4⟩ : ∃ b, (z2 == x) = b := ⟨_, rfl⟩
      have f1 : decide (z1 = x) = b1 := by rw [← e1]; by_cases e : z1 = x <;> simp [e]
      have f2 : decide (z2 = y) = b2 := by rw [← e2]; by_cases e : z2 = y <;> simp [e]
      have f3 : decide (z1 = y) = b3 := by rw [← e3]; by_cases e : z1 = y <;> simp [e]
      have f4 : decide (z2 = x) = b4 := by rw [← e4]; by_cases e : z2 = x <;> simp [e]
      rw [e1, e2, e3, e4] at hB0
      have HB := Lib.hid (below2 hb (below_alloc wr (.cells #[.int .i64 z1, .int .i64 z2] AT2)))
      have her : Hid (cutB x y (z1, z2) = true → true = r) := Lib.hid fun ht => by
        rw [← hres.out]; exact (cutL_true hkl (by rw [hz.out]; exact ht)).symm
      have hrel2 : Hid (cutB x y (z1, z2) = false → ∀ j, (h : j < cs.length) → j < k + 1 → cutB x y cs[j] = false) := Lib.hid fun hf j hj hjk => by
        by_cases e : j = k
        · subst e; rw [hz.out]; exact hf
        · exact hnot.out j hj (by omega)
      clear hb
      cases b1 <;> cases b2 <;> cases b3 <;> cases b4 <;> first
        | (have hT : cutB x y (z1, z2) = true := hB0.out
           have er := Lib.hid (her.out hT)
           clear hT
           go_wp2
           go_ret
           exact ⟨retb er.out.symm, HB.out⟩)
        | (have hF : cutB x y (z1, z2) = false := hB0.out
           have hN := Lib.hid (hrel2.out hF)
           clear hF
           go_wp2
           go_roundw
           case rel => exact ⟨k + 1, by omega, by go_num, HB.out, hN⟩
           case measure => simp [intOf]; omega)
    · have er : Hid (r = false) := Lib.hid (by rw [← hres.out]; exact cutL_false fun j hj => hnot.out j hj (by have := HL.out; omega))
      go_wp2
      go_ret
      exact ⟨retbf er.out, hb⟩
theorem dp_eq' (d : Nat) (a b : Int) (s : ByteArray) (q : Bool) (w : World) : (Op.equalIn (d + 4) DPT (.agg #[.int .i64 a, .int .i64 b, .string s, .bool q]) (.agg #[.int .i64 a, .int .i64 b, .string s, .bool q])).run Try.prog w = .ok true w := by
  have hp : Try.prog.stoodInHeld DPT = false := by kernel_rfl
  have hf : Try.prog.underlying DPT = some (.struct (Try.prog.fieldsOf DPT)) := by kernel_rfl
  rw [run_equalIn_agg w _ _ _ _ hf hp]
  clear hf hp
  go_simp
theorem dp_eq (a b : Int) (s : ByteArray) (q : Bool) (w : World) : (Op.equalIn 10000 DPT (.agg #[.int .i64 a, .int .i64 b, .string s, .bool q]) (.agg #[.int .i64 a, .int .i64 b, .string s, .bool q])).run Try.prog w = .ok true w := dp_eq' 9996 a b s q w
theorem dp_guard : Try.prog.eqGuardType Try.prog.depth DPT = false := by kernel_rfl
set_option maxHeartbeats 4000000 in
set_option maxRecDepth 100000 in
theorem same_pkts (A A' : Option Addr) (n c c' : Nat) (L : List Pkt) (w : World) (h : RdE w A n 4 (L.map encP)) (h' : RdE w A' n 4 (L.map encP)) : Calls Try.prog 34 #[.slice A n c, .slice A' n c'] w fun e w' => e = .returned (.bool true) ∧ Below w.heap.size w w' := by
  have hn9 := h.2.1
  have H := Lib.hid h
  have H' := Lib.hid h'
  have HN : Hid (L.length = n) := Lib.hid (by have := h.1; simpa using this)
  have hg := dp_guard
  clear h h'
  go_enter Try.func34, Try.ntmps34
  go_wp2
  go_loopw [5] (fun i wr => ∃ k : Nat, k ≤ n ∧ i = .int .i64 k ∧ Below w.heap.size w wr) (fun i _ => n - (intOf i).toNat)
  case atStart => exact ⟨0, by omega, rfl, Below.refl _ _⟩
  case round =>
    obtain ⟨k, hk, rfl, hb⟩ := hrel
    by_cases hlt : k < n
    · have hkl : k < L.length := by have := HN.out; omega
      obtain ⟨⟨x1, x2, x3, x4⟩, hx⟩ : ∃ x : Pkt, Hid (L[k] = x) := ⟨_, Lib.hid rfl⟩
      obtain ⟨ab, ao, hAe, c0, c1, c2, c3⟩ := pkt_at (H.out.below hb) k hlt hkl _ hx.out
      obtain ⟨ab2, ao2, hAe2, d0, d1, d2, d3⟩ := pkt_at (H'.out.below hb) k hlt hkl _ hx.out
      subst hAe
      subst hAe2
      dsimp only at c0 c1 c2 c3 d0 d1 d2 d3
      have heq := dp_eq x1 x2 x3 x4
      have HB := Lib.hid hb
      clear hb
      go_wp2_with fail
      go_quiet (fail)
      go_wp2
      go_roundw
      case rel => exact ⟨k + 1, by omega, by go_num, below2 HB.out (below_drewN _ _)⟩
      case measure => simp [intOf]; omega
    · go_wp2
      go_ret
      exact ⟨rfl, hb⟩
set_option maxHeartbeats 4000000 in
set_option maxRecDepth 100000 in
theorem plain_pkts (A : Option Addr) (n c : Nat) (L : List Pkt) (w : World) (h : RdE w A n 4 (L.map encP)) (hsm : n ≤ 100000) : Calls Try.prog 27 #[.slice A n c] w fun e w' => ∃ v, e = .returned v ∧ w'.ownsRow w.heap.size DPT 4 v n (L.flatMap encP) ∧ Below w.heap.size w w' := by
  have H := Lib.hid h
  have HN : Hid (L.length = n) := Lib.hid (by have := h.1; simpa using this)
  clear h
  go_enter Try.func27, Try.ntmps27
  go_wp2
  go_loopw [3, 8] (fun v i wr => ∃ k : Nat, k ≤ n ∧ i = .int .i64 k ∧ wr.ownsRow w.heap.size DPT 4 v k ((L.take k).flatMap encP) ∧ Below w.heap.size w wr) (fun _ i _ => n - (intOf i).toNat)
  case atStart => exact ⟨0, by omega, rfl, by simpa using World.ownsRow_nil _ _ _ _, Below.refl _ _⟩
  case round =>
    obtain ⟨k, hk, rfl, ho, hb⟩ := hrel
    by_cases hlt : k < n
    · have hkl : k < L.length := by have := HN.out; omega
      obtain ⟨⟨x1, x2, x3, x4⟩, hx⟩ : ∃ x : Pkt, Hid (L[k] = x) := ⟨_, Lib.hid rfl⟩
      obtain ⟨ab, ao, hAe, c0, c1, c2, c3⟩ := pkt_at (H.out.below hb) k hlt hkl _ hx.out
      subst hAe
      dsimp only at c0 c1 c2 c3
      have hnx : (L.take (k + 1)).flatMap encP = (L.take k).flatMap encP ++ [.int .i64 x1, .int .i64 x2, .string x3, .bool x4] := by
        rw [List.take_add_one, List.getElem?_eq_getElem hkl, hx.out, List.flatMap_append]
        rfl
      obtain ⟨A3, c3', rfl⟩ := own_form4 ho
      obtain ⟨W, hW⟩ : ∃ W, Hid ((wr.alloc (.cells #[.int .i64 x1, .int .i64 x2, .string x3, .bool x4] PT)).alloc (.cells #[.int .i64 x1, .int .i64 x2, .string x3, .bool x4] DPT) = W) := ⟨_, Lib.hid rfl⟩
      have hbW : Below wr.heap.size wr W := by rw [← hW.out]; exact below2 (below_alloc _ _) (below_alloc _ _)
      have g1 : W.heap[wr.heap.size + 1]? = some (.cells #[.int .i64 x1, .int .i64 x2, .string x3, .bool x4] DPT (0, 0)) := by
        rw [← hW.out]
        have := heap_alloc_new (wr.alloc (.cells #[.int .i64 x1, .int .i64 x2, .string x3, .bool x4] PT)) (.cells #[.int .i64 x1, .int .i64 x2, .string x3, .bool x4] DPT)
        rw [World.size_alloc] at this
        exact this
      have HO := Lib.hid (own_kept ho hbW)
      have HB := Lib.hid (below2 hb hbW)
      have HL := Lib.hid (lies_block g1)
      have HNX := Lib.hid hnx
      have HWS : Hid (w.heap.size ≤ W.heap.size) := Lib.hid (Nat.le_trans hb.size hbW.size)
      have hbs := Lib.hid hb.size
      clear ho hb hbW g1 hnx
      obtain ⟨F, hF⟩ : ∃ F, (L.take k).flatMap encP = F := ⟨_, rfl⟩
      rw [hF] at HO HNX
      go_wp2_with (first | (at_builtin; rw [hW.out]; refine wpList_append_src _ rfl (.tmp 12) (.tmp 14) w.heap.size 47 DPT (.agg #[.int .i64 0, .int .i64 0, .string ⟨#[]⟩, .bool false]) 4 40 rfl (by kernel_rfl) (by kernel_rfl) rfl (by decide) (by decide) _ k F rfl (own_len HO.out rfl ▸ HO.out) (some ⟨wr.heap.size + 1, 0, none⟩) 1 1 rfl (fun h => by cases h) [.int .i64 x1, .int .i64 x2, .string x3, .bool x4] rfl HL.out (by simp [Value.oneCell']) (by omega) HWS.out ?_; intro v1 w2 ho1 hg1 hv1))
      go_roundw
      case rel => exact ⟨k + 1, by omega, by go_num, by rw [HNX.out]; exact ho1, HB.out.trans (below_next HO.out HWS.out hg1)⟩
      case measure => simp [intOf]; omega
    · obtain rfl : k = n := by omega
      rw [List.take_of_length_le (by rw [HN.out]; exact Nat.le_refl _)] at ho
      go_wp2
      go_ret
      exact ⟨_, rfl, ho, hb⟩
end Go.Proofs.Ytbdcgfdchkbcnaa.Ne

/- net: the document's Set; which ways are cut, plain. -/
import Derived.Test.YtbdcgfdchkbcnaaNeV
namespace Go.Proofs.Ytbdcgfdchkbcnaa.Ne
open Go.RowKit Go.Proofs.Ytbdcgfdchkbcnaa.L Go.Proofs.Ytbdcgfdchkbcnaa.O Go.Proofs.Ytbdcgfdchkbcnaa.R Go.Proofs.Ytbdcgfdchkbcnaa.A Go.Proofs.Ytbdcgfdchkbcnaa.S Go.Proofs.Ytbdcgfdchkbcnaa.T Go.Proofs.Ytbdcgfdchkbcnaa.C Go.Proofs.Ytbdcgfdchkbcnaa.G Go.Proofs.Ytbdcgfdchkbcnaa.E
set_option linter.unusedVariables false
set_option linter.unusedSimpArgs false

def fl (cs : List (Int × Int)) (x y : Int) : List (Int × Int) := cs.filter fun c => !cutB x y c
def setL (cs : List (Int × Int)) (x y : Int) (cv : Bool) : List (Int × Int) := if cv then fl cs x y ++ [(x, y)] else fl cs x y
theorem fl_next {cs : List (Int × Int)} {x y : Int} {k : Nat} (hk : k < cs.length) : fl (cs.take (k + 1)) x y = if cutB x y cs[k] then fl (cs.take k) x y else fl (cs.take k) x y ++ [cs[k]] := by
  unfold fl
  rw [List.take_add_one, List.getElem?_eq_getElem hk, List.filter_append]
  cases h : cutB x y cs[k] <;> simp [h]
theorem fl_len (cs : List (Int × Int)) (x y : Int) : (fl cs x y).length ≤ cs.length := List.length_filter_le _ _
theorem setL_len (cs : List (Int × Int)) (x y : Int) (cv : Bool) : (setL cs x y cv).length ≤ cs.length + 1 := by
  have := fl_len cs x y
  unfold setL
  split
  · rw [List.length_append]; simp; omega
  · omega
/-- the document's pairs say what the net's map says. -/
def Coh (f : Int → Int → Bool) (cs : List (Int × Int)) : Prop := ∀ x y, f (mn x y) (mx x y) = cutL cs x y
theorem Coh.whole {f : Int → Int → Bool} {cs : List (Int × Int)} (h : Coh f cs) (nodes : Nat) (x y : Int) : wholeB nodes f x y = (okW nodes x y && !cutL cs x y) := by
  unfold wholeB
  rw [h x y]
theorem Coh.none : Coh (fun _ _ => false) [] := fun x y => rfl
theorem pair_same {x y a b : Int} (h : mn a b = mn x y ∧ mx a b = mx x y) : (a = x ∧ b = y) ∨ (a = y ∧ b = x) := by
  unfold mn mx at h
  split at h <;> split at h <;> omega
theorem cutB_same {x y a b : Int} (h : (a = x ∧ b = y) ∨ (a = y ∧ b = x)) (c : Int × Int) : cutB a b c = cutB x y c := by
  unfold cutB
  rcases h with ⟨rfl, rfl⟩ | ⟨rfl, rfl⟩
  · rfl
  · rw [Bool.or_comm]
theorem cutB_pair {x y : Int} {c : Int × Int} (h : cutB x y c = true) : (c.1 = x ∧ c.2 = y) ∨ (c.1 = y ∧ c.2 = x) := by
  simpa [cutB] using h
theorem mnmx {x y a b : Int} (h : (a = x ∧ b = y) ∨ (a = y ∧ b = x)) : mn a b = mn x y ∧ mx a b = mx x y := by
  unfold mn mx
  rcases h with ⟨rfl, rfl⟩ | ⟨rfl, rfl⟩
  · exact ⟨rfl, rfl⟩
  · constructor <;> (split <;> split <;> omega)
theorem Coh.set {f : Int → Int → Bool} {cs : List (Int × Int)} (h : Coh f cs) (x y : Int) (cv : Bool) : Coh (upd f x y cv) (setL cs x y cv) := fun a b => by
  unfold upd
  by_cases e : mn a b = mn x y ∧ mx a b = mx x y
  · rw [if_pos e]
    have hp := pair_same e
    have h1 : cutL (fl cs x y) a b = false := by
      unfold cutL
      rw [List.any_eq_false]
      intro c hc
      have := (List.mem_filter.1 hc).2
      rw [cutB_same hp c]
      simpa using this
    cases cv with
    | false => exact h1.symm
    | true =>
      have : cutB a b (x, y) = true := by rw [cutB_same hp]; simp [cutB]
      simp [setL, cutL, this]
  · rw [if_neg e, h a b]
    have hne : ∀ c, cutB a b c = true → cutB x y c = false := fun c hc => by
      cases hx : cutB x y c with
      | false => rfl
      | true =>
        have h1 := mnmx (cutB_pair hc)
        have h2 := mnmx (cutB_pair hx)
        exact absurd ⟨h1.1.symm.trans h2.1, h1.2.symm.trans h2.2⟩ e
    have h1 : cutL (fl cs x y) a b = cutL cs a b := by
      unfold cutL fl
      rw [Bool.eq_iff_iff, List.any_eq_true, List.any_eq_true]
      constructor
      · rintro ⟨c, hc, h2⟩
        exact ⟨c, (List.mem_filter.1 hc).1, h2⟩
      · rintro ⟨c, hc, h2⟩
        exact ⟨c, List.mem_filter.2 ⟨hc, by rw [hne c h2]; rfl⟩, h2⟩
    cases cv with
    | false => exact h1.symm
    | true =>
      have : cutB a b (x, y) = false := by
        cases hx : cutB a b (x, y) with
        | false => rfl
        | true =>
          have := hne _ hx
          simp [cutB] at this
      have h2 : cutL (fl cs x y ++ [(x, y)]) a b = cutL (fl cs x y) a b := by simp [cutL, List.any_append, this]
      show _ = cutL (setL cs x y true) a b
      rw [show setL cs x y true = fl cs x y ++ [(x, y)] from rfl, h2, h1]
theorem one_cut {L : List (Int × Int)} : ∀ u ∈ L.flatMap encC, u.oneCell' = true := by
  intro u hu
  obtain ⟨e, _, h⟩ := List.mem_flatMap.1 hu
  simp only [encC, List.mem_cons, List.not_mem_nil, or_false] at h
  rcases h with rfl | rfl <;> rfl
theorem own_form2 {w : World} {base n : Nat} {e : TypeId} {v : Value} {xs : List Value} (h : w.ownsRow base e 2 v n xs) : ∃ A c, v = .slice A n c := by
  rcases h.2 with ⟨hv, hn⟩ | ⟨g, cap, cur, hv, _⟩
  · exact ⟨none, 0, by rw [hv, hn]⟩
  · exact ⟨some ⟨g, 0, none⟩, cap, hv⟩
theorem dd_fin2 {W w : World} {d nodes : Nat} {vL vC v : Value} {Ls : List Pkt} {cs cs' : List (Int × Int)} (h : Dd w d nodes vL Ls vC cs) (hb : Below w.heap.size w W) (ho : W.ownsRow w.heap.size AT2 2 v cs'.length (cs'.flatMap encC)) :
    GD d nodes vL vC Ls cs' w (W.setCell ⟨d, 2, none⟩ v) := by
  have hlt := h.lt
  have hW := h.below hb
  have hk : Keep [d] W (W.setCell ⟨d, 2, none⟩ v) := (Keep.refl _ _).setCell (p := ⟨d, 2, none⟩) (.inl (by simp)) _
  refine ⟨vL, v, ⟨(Go.Proofs.Ytbdcgfdchkbcnaa.L.heap_setCell_at W d 2 _ _ _ v hW.blk).trans rfl, own_keep hW.own hk (fun k hk => by have := (own_lt hW.own k hk).1; simp; omega), ?_⟩, (Keep.of_below hb).trans hk, .inl rfl, .inr fun k hk => (own_lt ho k hk).1⟩
  exact own_base (own_keep ho hk (fun k hk => by have := (own_lt ho k hk).1; simp; omega)) (by omega)
set_option maxHeartbeats 16000000 in
set_option maxRecDepth 100000 in
theorem dset_any (d nodes : Nat) (vL vC : Value) (Ls : List Pkt) (cs : List (Int × Int)) (x y : Int) (cv : Bool) (w : World) (h : Dd w d nodes vL Ls vC cs) (hsm : cs.length ≤ 1000000) :
    Calls Try.prog 30 #[.pointer (some ⟨d, 0, none⟩), .int .i64 x, .int .i64 y, .bool cv] w fun e w' => e = .returned (.int .i64 (if okW nodes x y then 0 else 1)) ∧ GD d nodes vL vC Ls (if okW nodes x y then setL cs x y cv else cs) w w' := by
  have HRT := Lib.hid (right_any d nodes x y w h.cell.1)
  have HD := Lib.hid h
  cases hok : okW nodes x y with
  | false =>
    rw [hok] at HRT
    clear h hok hsm
    go_enter Try.func30, Try.ntmps30
    go_wp2_with fail
    refine HRT.out.mono ?_
    rintro e w1 ⟨rfl, rfl⟩
    go_wp2
    go_ret
    exact ⟨rfl, gd_same HD.out (Below.refl _ _)⟩
  | true =>
    rw [hok] at HRT
    simp only [if_true]
    obtain ⟨A, cp, hv, hr, _, _⟩ := own_rdE h.cut encC_len rfl
    obtain ⟨n, hn⟩ : ∃ n, cs.length = n := ⟨_, rfl⟩
    have hcell := h.cell.2.2.1
    have hfrz := Lib.hid h.cell.2.2.2.2
    rw [hv, hn] at hcell
    rw [hn] at hr hsm
    have HR := Lib.hid hr
    have HL := Lib.hid hn
    have HC := Lib.hid hcell
    obtain ⟨W0, hW0⟩ : ∃ W0, Hid (w.alloc (.cells #[] AT2) = W0) := ⟨_, Lib.hid rfl⟩
    obtain ⟨ob, hob⟩ : ∃ ob, Hid (w.heap.size = ob) := ⟨_, Lib.hid rfl⟩
    have HO0 : Hid (W0.ownsRow w.heap.size AT2 2 (.slice (some ⟨ob, 0, none⟩) 0 0) 0 [] ∧ Below w.heap.size w W0) := Lib.hid (by
      rw [← hW0.out, ← hob.out]
      exact ⟨World.ownsRow_lit (size := 2) w #[] 0 (Nat.le_refl _) (by decide) rfl, below_alloc _ _⟩)
    clear h hok hr hn hcell hv
    go_enter Try.func30, Try.ntmps30
    go_wp2_with fail
    refine HRT.out.mono ?_
    rintro e w1 ⟨rfl, rfl⟩
    go_wp2_with fail
    rw [hW0.out, hob.out]
    go_loopw [9, 10] (fun v i wr => ∃ k : Nat, k ≤ n ∧ i = .int .i64 k ∧ wr.ownsRow w.heap.size AT2 2 v (fl (cs.take k) x y).length ((fl (cs.take k) x y).flatMap encC) ∧ Below w.heap.size w wr) (fun _ i _ => n - (intOf i).toNat)
    case atStart => exact ⟨0, by omega, rfl, by simpa [fl] using HO0.out.1, HO0.out.2⟩
    case round =>
      obtain ⟨k, hk, rfl, ho, hb⟩ := hrel
      have hcell := cell_below hb HC.out
      by_cases hlt : k < n
      · have hkl : k < cs.length := by have := HL.out; omega
        obtain ⟨⟨z1, z2⟩, hz⟩ : ∃ z : Int × Int, Hid (cs[k] = z) := ⟨_, Lib.hid rfl⟩
        obtain ⟨ab, ao, hA, c0, c1⟩ := cut_at (HR.out.below hb) k hlt hkl _ hz.out
        subst hA
        dsimp only at c0 c1
        have hfn := fl_next (x := x) (y := y) hkl
        rw [hz.out] at hfn
        have HFN := Lib.hid hfn
        obtain ⟨F, hF⟩ : ∃ F, fl (cs.take k) x y = F := ⟨_, rfl⟩
        obtain ⟨m, hm⟩ : ∃ m, F.length = m := ⟨_, rfl⟩
        have hm9 : m ≤ 1000000 := by
          rw [← hm, ← hF]
          have h1 := fl_len (cs.take k) x y
          have h2 : (cs.take k).length ≤ k := by rw [List.length_take]; omega
          omega
        rw [hF] at HFN ho
        rw [hm] at ho
        obtain ⟨A3, c3', rfl⟩ := own_form2 ho
        have hB0 : Hid (cutB x y (z1, z2) = ((z1 == x && z2 == y) || (z1 == y && z2 == x))) := Lib.hid rfl
        obtain ⟨b1, e1⟩ : ∃ b, (z1 == x) = b := ⟨_, rfl⟩
        obtain ⟨b2, e2⟩ : ∃ b, (z2 == y) = b := ⟨_, rfl⟩
        obtain ⟨b3, e3⟩ : ∃ b, (z1 == y) = b := ⟨_, rfl⟩
        obtain ⟨b4, e4⟩ : ∃ b, (z2 == x) = b := ⟨_, rfl⟩
        have f1 : decide (z1 = x) = b1 := by rw [← e1]; by_cases e : z1 = x <;> simp [e]
        have f2 : decide (z2 = y) = b2 := by rw [← e2]; by_cases e : z2 = y <;> simp [e]
        have f3 : decide (z1 = y) = b3 := by rw [← e3]; by_cases e : z1 = y <;> simp [e]
        have f4 : decide (z2 = x) = b4 := by rw [← e4]; by_cases e : z2 = x <;> simp [e]
        rw [e1, e2, e3, e4] at hB0
        obtain ⟨W1, hW1⟩ : ∃ W1, Hid (wr.alloc (.cells #[.int .i64 z1, .int .i64 z2] AT2) = W1) := ⟨_, Lib.hid rfl⟩
        obtain ⟨W2, hW2⟩ : ∃ W2, Hid ((wr.alloc (.cells #[.int .i64 z1, .int .i64 z2] AT2)).alloc (.cells #[.int .i64 z1, .int .i64 z2] AT2) = W2) := ⟨_, Lib.hid rfl⟩
        have hb1 : Below wr.heap.size wr W1 := by rw [← hW1.out]; exact below_alloc _ _
        have hb2 : Below wr.heap.size wr W2 := by rw [← hW2.out]; exact below2 (below_alloc _ _) (below_alloc _ _)
        have g2 : W2.heap[wr.heap.size + 1]? = some (.cells #[.int .i64 z1, .int .i64 z2] AT2 (0, 0)) := by
          rw [← hW2.out]
          have := heap_alloc_new (wr.alloc (.cells #[.int .i64 z1, .int .i64 z2] AT2)) (.cells #[.int .i64 z1, .int .i64 z2] AT2)
          rw [World.size_alloc] at this
          exact this
        have HO1 : Hid ((wr.alloc (.cells #[.int .i64 z1, .int .i64 z2] AT2)).ownsRow w.heap.size AT2 2 (.slice A3 m c3') m (F.flatMap encC) ∧ Below w.heap.size w (wr.alloc (.cells #[.int .i64 z1, .int .i64 z2] AT2))) := Lib.hid (by rw [hW1.out]; exact And.intro (own_kept ho hb1) (below2 hb hb1))
        have HO2 := Lib.hid (own_kept ho hb2)
        have HB2 := Lib.hid (below2 hb hb2)
        have HLI := Lib.hid (lies_block g2)
        have HWS : Hid (w.heap.size ≤ W2.heap.size) := Lib.hid (Nat.le_trans hb.size hb2.size)
        have HM := Lib.hid hm
        clear ho hb hb1 hb2 g2 hfn hF hm
        cases b1 <;> cases b2 <;> cases b3 <;> cases b4 <;> first
          | (have hT : cutB x y (z1, z2) = true := hB0.out
             have hR : Hid (fl (cs.take (k + 1)) x y = F) := Lib.hid (by have := HFN.out; rw [if_pos hT] at this; exact this)
             clear hT
             go_wp2
             go_roundw
             case rel => exact ⟨k + 1, by omega, by go_num, by rw [hR.out, HM.out]; exact HO1.out.1, HO1.out.2⟩
             case measure => simp [intOf]; omega)
          | (have hT : cutB x y (z1, z2) = false := hB0.out
             have hR : Hid (fl (cs.take (k + 1)) x y = F ++ [(z1, z2)]) := Lib.hid (by have := HFN.out; rw [hT] at this; simpa using this)
             clear hT
             go_wp2_with (first | (at_builtin; rw [hW2.out]; refine wpList_append_src _ rfl (.tmp 57) (.tmp 59) w.heap.size 54 AT2 (.agg #[.int .i64 0, .int .i64 0]) 2 16 rfl (by kernel_rfl) (by kernel_rfl) rfl (by decide) (by decide) _ m (F.flatMap encC) rfl HO2.out (some ⟨wr.heap.size + 1, 0, none⟩) 1 1 rfl (fun h => by cases h) [.int .i64 z1, .int .i64 z2] rfl HLI.out (by simp [Value.oneCell']) (by omega) HWS.out ?_; intro v1 w2 ho1 hg1 hv1))
             go_roundw
             case rel => exact ⟨k + 1, by omega, by go_num, by rw [hR.out, List.length_append, List.flatMap_append, HM.out]; exact ho1, HB2.out.trans (below_next HO2.out HWS.out hg1)⟩
             case measure => simp [intOf]; omega)
      · obtain rfl : k = n := by omega
        rw [List.take_of_length_le (by have := HL.out; omega)] at ho
        obtain ⟨F, hF⟩ : ∃ F, fl cs x y = F := ⟨_, rfl⟩
        obtain ⟨m, hm⟩ : ∃ m, F.length = m := ⟨_, rfl⟩
        have hm9 : m ≤ 1000000 := by
          rw [← hm, ← hF]
          have h1 := fl_len cs x y
          have := HL.out
          omega
        rw [hF] at ho
        rw [hm] at ho
        obtain ⟨A3, c3', rfl⟩ := own_form2 ho
        cases cv with
        | false =>
          have HZ : Hid (GD d nodes vL vC Ls (setL cs x y false) w (wr.setCell ⟨d, 2, none⟩ (.slice A3 m c3'))) := Lib.hid (dd_fin2 HD.out hb (by rw [show setL cs x y false = F from hF, hm]; exact ho))
          have hfz := (HD.out.below hb).cell.2.2.2.2
          clear ho hb
          go_wp2
          go_ret
          exact ⟨rfl, HZ.out⟩
        | true =>
          obtain ⟨W2, hW2⟩ : ∃ W2, Hid (wr.alloc (.cells #[.int .i64 x, .int .i64 y] AT2) = W2) := ⟨_, Lib.hid rfl⟩
          have hb2 : Below wr.heap.size wr W2 := by rw [← hW2.out]; exact below_alloc _ _
          have HLI := Lib.hid (lies_block (show W2.heap[wr.heap.size]? = some (.cells #[.int .i64 x, .int .i64 y] AT2 (0, 0)) by rw [← hW2.out]; exact heap_alloc_new _ _))
          have HO2 := Lib.hid (own_kept ho hb2)
          have HWS : Hid (w.heap.size ≤ W2.heap.size) := Lib.hid (Nat.le_trans hb.size hb2.size)
          have HB2 := Lib.hid (below2 hb hb2)
          have HSE : Hid (setL cs x y true = F ++ [(x, y)] ∧ F.length = m) := Lib.hid ⟨by rw [show setL cs x y true = fl cs x y ++ [(x, y)] from rfl, hF], hm⟩
          clear ho hb hb2
          go_wp2_with (first | (at_builtin; rw [hW2.out]; refine wpList_append_src _ rfl (.tmp 62) (.tmp 66) w.heap.size 54 AT2 (.agg #[.int .i64 0, .int .i64 0]) 2 16 rfl (by kernel_rfl) (by kernel_rfl) rfl (by decide) (by decide) _ m (F.flatMap encC) rfl HO2.out (some ⟨wr.heap.size, 0, none⟩) 1 1 rfl (fun h => by cases h) [.int .i64 x, .int .i64 y] rfl HLI.out (by simp [Value.oneCell']) (by omega) HWS.out ?_; intro v1 w2 ho1 hg1 hv1; obtain ⟨A4, c4, rfl⟩ := own_form2 ho1; have HB4 := HB2.out.trans (below_next HO2.out HWS.out hg1); have hc4 := cell_below HB4 HC.out; have hfz := (HD.out.below HB4).cell.2.2.2.2; have HB5 := Lib.hid HB4; have HO4 := Lib.hid ho1; clear HB4 ho1 hg1 hv1))
          go_ret
          exact ⟨rfl, dd_fin2 HD.out HB5.out (by rw [HSE.out.1, List.length_append, List.flatMap_append, HSE.out.2]; exact HO4.out)⟩
end Go.Proofs.Ytbdcgfdchkbcnaa.Ne

/- arrow: the law ArrowPlays. -/
import Derived.Test.YtmddcmfleipjjaaArM
import Derived.Test.YtmddcmfleipjjaaQ
import Derived.Deep.LoopGhost
import Derived.Deep.DeepCutAuto
import Derived.Deep.CutRange
import Derived.Deep.CutBlock
namespace Go.Proofs.Ytmddcmfleipjjaa.Ar
open Go.RowKit Go.Proofs.Ytmddcmfleipjjaa.L Go.Proofs.Ytmddcmfleipjjaa.A Go.Proofs.Ytmddcmfleipjjaa.R Go.Proofs.Ytmddcmfleipjjaa.T Go.Proofs.Ytmddcmfleipjjaa.F Go.Proofs.Ytmddcmfleipjjaa.S Go.Proofs.Ytmddcmfleipjjaa.Sp Go.Proofs.Ytmddcmfleipjjaa.G Go.Proofs.Ytmddcmfleipjjaa.O Go.Proofs.Ytmddcmfleipjjaa.E
set_option linter.unusedVariables false
set_option linter.unusedSimpArgs false

def rng (x : Int) : Prop := -9223372036854775808 ≤ x ∧ x ≤ 9223372036854775807
abbrev PL : TypeId := 46
abbrev OT : TypeId := 56
def plO (a t : Int) : Obj := .cells #[.int .i64 a, .int .i64 t] PL
def opO (k ce nn : Int) : Obj := .cells #[.int .i64 k, .int .i64 ce, .int .i64 nn] OT
theorem wz_zero {a x : Nat} (h : 1 ≤ x) : ((wz a x : Int) == 0) = (x == a) := by
  unfold wz
  by_cases e : x = a
  · rw [if_pos e, e]; simp
  · have h1 : ((x : Int) == 0) = false := by simp; omega
    have h2 : (x == a) = false := by simpa using e
    rw [if_neg e, h1, h2]
def docL (a t : Int) (xs : List Int) : List A3 := xs.map fun o => if towI a o t = 0 then (0, 0, 0) else (a, t, towI a o t)
theorem docL_ok {a t : Int} {xs : List Int} (h : bad a t xs = false) : docL a t xs = ofL a t xs := by
  unfold docL ofL
  refine List.map_congr_left fun o ho => if_neg fun he => ?_
  have : bad a t xs = true := by unfold bad; rw [List.any_eq_true]; exact ⟨o, ho, by rw [he]; rfl⟩
  rw [h] at this; cases this
theorem bad_snoc (a t : Int) (xs : List Int) (x : Int) : bad a t (xs ++ [x]) = (bad a t xs || towI a x t == 0) := by simp [bad]
/-- what was got from NewBook. -/
def Got (w W : World) (fn : Bool) (bv : Value) (ev a t : Int) (xs : List Int) : Prop :=
  (fn = false ∧ bv = .pointer none ∧ ev = 1) ∨ (fn = true ∧ ∃ b g cc, bv = .pointer (some ⟨b, 0, none⟩) ∧ ev = 0 ∧ w.heap.size ≤ b ∧ Bk W b g cc (ofL a t xs))
theorem Got.below {w W W' : World} {fn : Bool} {bv : Value} {ev a t : Int} {xs : List Int} (h : Got w W fn bv ev a t xs) (hb : Below W.heap.size W W') : Got w W' fn bv ev a t xs := by
  rcases h with h | ⟨h1, b, g, cc, h2, h3, h4, h5⟩
  · exact .inl h
  · exact .inr ⟨h1, b, g, cc, h2, h3, h4, h5.below hb⟩
def f0 (n : Nat) : Bool := decide (1 ≤ n) && decide (n ≤ 16)
theorem got_of {w w2 : World} {a t : Int} {xs : List Int} {e : Ending} (h : Nb w a t xs e w2) : ∃ bv ev, e = .returned (.tuple #[bv, .int .i64 ev]) ∧ Below w.heap.size w w2 ∧ Got w w2 (f0 xs.length && !bad a t xs) bv ev a t xs := by
  obtain ⟨hb, h⟩ := h
  rcases h with ⟨h, rfl⟩ | ⟨h1, h2, h3, b, g, cc, rfl, h4, h5⟩
  · refine ⟨_, _, rfl, hb, .inl ⟨?_, rfl, rfl⟩⟩
    unfold f0
    rcases h with h | h | h
    · rw [h]; rfl
    · have : decide (xs.length ≤ 16) = false := by simp; omega
      rw [this]; simp
    · rw [h]; simp
  · refine ⟨_, _, rfl, hb, .inr ⟨?_, b, g, cc, rfl, rfl, h4, h5⟩⟩
    unfold f0
    simp [h1, h2, h3]
theorem pl_cells {W : World} {k : Nat} {a t : Int} (h : W.heap[k]? = some (plO a t)) : W.cell? ⟨k, 0, none⟩ = some (.int .i64 a) ∧ W.cell? ⟨k, 1, none⟩ = some (.int .i64 t) := by
  refine ⟨?_, ?_⟩
  · rw [cell_of_row W k 0 _ _ _ h]; rfl
  · rw [cell_of_row W k 1 _ _ _ h]; rfl
theorem op_cells {W : World} {k : Nat} {p q r : Int} (h : W.heap[k]? = some (opO p q r)) : W.cell? ⟨k, 0, none⟩ = some (.int .i64 p) ∧ W.cell? ⟨k, 1, none⟩ = some (.int .i64 q) ∧ W.cell? ⟨k, 2, none⟩ = some (.int .i64 r) := by
  refine ⟨?_, ?_, ?_⟩
  · rw [cell_of_row W k 0 _ _ _ h]; rfl
  · rw [cell_of_row W k 1 _ _ _ h]; rfl
  · rw [cell_of_row W k 2 _ _ _ h]; rfl
set_option maxHeartbeats 16000000 in
set_option maxRecDepth 100000 in
theorem plays_walk (w : World) (a0 t0 : Int) (hra : rng a0) (hrt : rng t0) (A : Option Addr) (n c : Nat) (xs : List Int) (hr : Rd w A n (xs.map (Value.int .i64))) (hxr : ∀ x ∈ xs, rng x) (B : Option Addr) (m d : Nat) (ops : List A3) (hs : RdE w B m 3 (ops.map encA)) (hor : ∀ o ∈ ops, rng o.2.2) :
    Calls Try.prog 6 #[.agg #[.int .i64 a0, .int .i64 t0], .slice A n c, .slice B m d] w fun e w' => e = .returned (.bool true) ∧ Below w.heap.size w w' := by
  have hln : xs.length = n := by have := hr.len; simpa using this
  have hlm : ops.length = m := by simpa using hs.1
  have hn9 := hr.2.1
  have hm9 := hs.2.1
  obtain ⟨pb, hpb⟩ : ∃ pb, Hid (w.heap.size = pb) := ⟨_, Lib.hid rfl⟩
  obtain ⟨w0, hw0⟩ : ∃ w0, Hid (w.alloc (.cells #[.int .i64 a0, .int .i64 t0] PL) = w0) := ⟨_, Lib.hid rfl⟩
  have HB0 : Hid (Below w.heap.size w w0 ∧ w0.heap[pb]? = some (plO a0 t0)) := Lib.hid (by
    rw [← hw0.out, ← hpb.out]
    exact ⟨below_alloc _ _, heap_alloc_new _ _⟩)
  have HRA := Lib.hid (And.intro hra hrt)
  have HXR := Lib.hid hxr
  have HOR := Lib.hid hor
  have HR := Lib.hid hr
  have HS := Lib.hid hs
  have HLN := Lib.hid hln
  have HLM := Lib.hid hlm
  have HA := Lib.hid (awake_any w0)
  clear hra hrt hxr hor hr hs hln hlm
  go_enter Try.func6, Try.ntmps6
  go_wp2_with fail
  rw [hw0.out, hpb.out]
  refine HA.out.mono ?_
  rintro e w1 ⟨rfl, hb1⟩
  have HB1 : Hid (Below w.heap.size w w1 ∧ w1.heap[pb]? = some (plO a0 t0)) := Lib.hid ⟨below2 HB0.out.1 hb1, keep_block (.of_below (S := []) hb1) HB0.out.2 (by simp)⟩
  clear hb1
  by_cases hm2 : 200 < m
  · have d1 : decide ((200 : Int) < (m : Int)) = true := by simp; omega
    have d2 : decide (200 < m) = true := by simp; omega
    go_wp2_with fail
    go_ret
    exact ⟨rfl, HB1.out.1⟩
  have d1 : decide ((200 : Int) < (m : Int)) = false := by simp; omega
  have d2 : decide (200 < m) = false := by simp; omega
  by_cases hn4 : 40 < n
  · have d3 : decide ((40 : Int) < (n : Int)) = true := by simp; omega
    have d4 : decide (40 < n) = true := by simp; omega
    go_wp2_with fail
    go_ret
    exact ⟨rfl, HB1.out.1⟩
  have d3 : decide ((40 : Int) < (n : Int)) = false := by simp; omega
  have d4 : decide (40 < n) = false := by simp; omega
  obtain ⟨p0, p1⟩ := pl_cells HB1.out.2
  have HNB := Lib.hid (newbook_any a0 t0 A n c xs w1 (HR.out.below HB1.out.1))
  go_wp2_with fail
  refine HNB.out.mono ?_
  intro e w2 hnb
  obtain ⟨bv, ev, rfl, hb2, hgot⟩ := got_of hnb
  rw [HLN.out] at hgot
  have HGOT := Lib.hid hgot
  have HB2 : Hid (Below w.heap.size w w2 ∧ w2.heap[pb]? = some (plO a0 t0)) := Lib.hid ⟨below2 HB1.out.1 hb2, keep_block (.of_below (S := []) hb2) HB1.out.2 (by simp)⟩
  clear hb2 hgot hnb p0 p1 d1 d2 d3 d4
  go_upto_region 7 with (fail)
  go_cut [10] from 53 to 58 (fun s wx => ∃ f : Bool, s = .bool f ∧ wx = w2 ∧ Hid (f = f0 n))
  case first =>
    by_cases h1 : 1 ≤ n
    · have d1 : decide ((1 : Int) ≤ (n : Int)) = true := by simp; omega
      have d2 : decide (1 ≤ n) = true := by simp; omega
      by_cases h2 : n ≤ 16
      · have d3 : decide ((n : Int) ≤ 16) = true := by simp; omega
        have HF : Hid (true = f0 n) := Lib.hid (by simp [f0, h1, h2])
        go_wp2_with fail
        go_meet
        exact ⟨true, rfl, rfl, HF⟩
      · have d3 : decide ((n : Int) ≤ 16) = false := by simp; omega
        have HF : Hid (false = f0 n) := Lib.hid (by simp [f0, h1, h2])
        go_wp2_with fail
        go_meet
        exact ⟨false, rfl, rfl, HF⟩
    · have d1 : decide ((1 : Int) ≤ (n : Int)) = false := by simp; omega
      have d2 : decide (1 ≤ n) = false := by simp; omega
      have HF : Hid (false = f0 n) := Lib.hid (by simp [f0, h1])
      go_wp2_with fail
      go_meet
      exact ⟨false, rfl, rfl, HF⟩
  case rest =>
  obtain ⟨ff, rfl, rfl, HF⟩ := hcut
  have hn40 : n ≤ 40 := by omega
  clear hn4
  go_wp2_with fail
  go_loopw [9, 10, 61] (fun v f i wr => ∃ (k : Nat) (fk : Bool) (AW : Option Addr) (cw : Nat), k ≤ n ∧ v = .slice AW k cw ∧ f = .bool fk ∧ i = .int .i64 k ∧ Hid (Below wc.heap.size wc wr ∧ wr.ownsRow wc.heap.size RA 3 (.slice AW k cw) k ((docL a0 t0 (xs.take k)).flatMap encA) ∧ fk = (f0 n && !bad a0 t0 (xs.take k)))) (fun _ _ i _ => n - (intOf i).toNat)
  case atStart => exact ⟨0, ff, none, 0, by omega, rfl, rfl, rfl, Lib.hid ⟨Below.refl _ _, World.ownsRow_nil _ _ _ _, by rw [HF.out]; simp [bad]⟩⟩
  case round =>
    obtain ⟨k, fk, AW, cw, hk, rfl, rfl, rfl, HI⟩ := hrel
    by_cases hlt : k < n
    · have hkl : k < xs.length := by have := HLN.out; omega
      obtain ⟨x, hxe⟩ : ∃ x : Int, Hid (xs[k] = x) := ⟨_, Lib.hid rfl⟩
      have hxx := HXR.out x (hxe.out ▸ List.getElem_mem hkl)
      have hbw : Below w.heap.size w wr := below2 HB2.out.1 HI.out.1
      obtain ⟨ab, ao, hA, hc⟩ := (HR.out.below hbw).2.2 (by omega)
      have hcell := hc k hlt
      rw [List.getElem?_map, List.getElem?_eq_getElem hkl, hxe.out] at hcell
      simp only [Option.map_some] at hcell
      subst hA
      clear hc
      have hnx : Hid (xs.take (k + 1) = xs.take k ++ [x]) := Lib.hid (by rw [List.take_add_one, List.getElem?_eq_getElem hkl, hxe.out]; rfl)
      have HPL : Hid (wr.heap[pb]? = some (plO a0 t0)) := Lib.hid (keep_block (.of_below (S := []) HI.out.1) HB2.out.2 (by simp))
      obtain ⟨q0, q1⟩ := pl_cells HPL.out
      obtain ⟨r, hr⟩ : ∃ r, Hid (towI a0 x t0 = r) := ⟨_, Lib.hid rfl⟩
      obtain ⟨y1, y2, y3, ok, HNEW, HE⟩ : ∃ (y1 y2 y3 : Int) (ok : Bool), Hid (∀ W, Calls Try.prog 17 #[.int .i64 a0, .int .i64 t0, .int .i64 x] W fun e w' => e = .returned (.tuple #[.agg #[.int .i64 y1, .int .i64 y2, .int .i64 y3], .bool ok]) ∧ Below W.heap.size W w') ∧ Hid (ok = !(r == 0) ∧ (y1, y2, y3) = if r = 0 then (0, 0, 0) else (a0, t0, r)) := by
        have h1 := fun W => rnew_any a0 t0 x W HRA.out.1 hxx HRA.out.2
        rw [hr.out] at h1
        by_cases hz : r = 0
        · simp only [if_pos hz] at h1
          exact ⟨_, _, _, _, Lib.hid h1, Lib.hid ⟨by simp [hz], by rw [if_pos hz]⟩⟩
        · simp only [if_neg hz] at h1
          exact ⟨_, _, _, _, Lib.hid h1, Lib.hid ⟨by simp [hz], by rw [if_neg hz]⟩⟩
      obtain ⟨F, hF9⟩ : ∃ F, Hid ((docL a0 t0 (xs.take k)).flatMap encA = F) := ⟨_, Lib.hid rfl⟩
      have HNF : Hid (F ++ [.int .i64 y1, .int .i64 y2, .int .i64 y3] = (docL a0 t0 (xs.take (k + 1))).flatMap encA ∧ (fk && ok) = (f0 n && !bad a0 t0 (xs.take (k + 1)))) := Lib.hid (by
        obtain ⟨e1, e2⟩ := HE.out
        refine ⟨?_, ?_⟩
        · rw [hnx.out, ← hF9.out]
          unfold docL
          rw [List.map_append, List.flatMap_append]
          congr 1
          simp only [List.map_cons, List.map_nil, hr.out]
          rw [← e2]
          simp [encA]
        · rw [hnx.out, bad_snoc, hr.out, e1, HI.out.2.2]
          cases f0 n <;> cases bad a0 t0 (xs.take k) <;> simp)
      clear hbw hxx
      go_wp2_with fail
      refine (HNEW.out _).mono ?_
      rintro e w3 ⟨rfl, hb3⟩
      obtain ⟨W, hW⟩ : ∃ W, Hid ((w3.alloc (.cells #[.int .i64 y1, .int .i64 y2, .int .i64 y3] RA)).alloc (.cells #[.int .i64 y1, .int .i64 y2, .int .i64 y3] RA) = W) := ⟨_, Lib.hid rfl⟩
      have hbW : Below w3.heap.size w3 W := by rw [← hW.out]; exact below2 (below_alloc _ _) (below_alloc _ _)
      have g1 : W.heap[w3.heap.size + 1]? = some (.cells #[.int .i64 y1, .int .i64 y2, .int .i64 y3] RA (0, 0)) := by
        rw [← hW.out]
        have := heap_alloc_new (w3.alloc (.cells #[.int .i64 y1, .int .i64 y2, .int .i64 y3] RA)) (.cells #[.int .i64 y1, .int .i64 y2, .int .i64 y3] RA)
        rw [World.size_alloc] at this
        exact this
      have ho := HI.out.2.1
      rw [hF9.out] at ho
      have HO2 := Lib.hid (own_kept (own_kept ho hb3) hbW)
      have HB3 : Hid (Below wc.heap.size wc W) := Lib.hid (below2 (below2 HI.out.1 hb3) hbW)
      have HLI := Lib.hid (lies_block g1)
      have HWS : Hid (wc.heap.size ≤ W.heap.size) := Lib.hid HB3.out.size
      clear hb3 hbW g1 ho q0 q1 hcell
      cases fk with
      | false =>
        go_wp2_with (first | (at_builtin; rw [hW.out]; refine wpList_append_src _ rfl (.tmp 78) (.tmp 80) wc.heap.size 51 RA (.agg #[.int .i64 0, .int .i64 0, .int .i64 0]) 3 24 rfl (by kernel_rfl) (by kernel_rfl) rfl (by decide) (by decide) _ k F rfl HO2.out (some ⟨w3.heap.size + 1, 0, none⟩) 1 1 rfl (fun h => by cases h) [.int .i64 y1, .int .i64 y2, .int .i64 y3] rfl HLI.out (by simp [Value.oneCell']) (by omega) HWS.out ?_; intro v1 w4 ho1 hg1 hv1))
        obtain ⟨A4, c4, rfl⟩ := own_form3 ho1
        go_roundw
        case rel => exact ⟨k + 1, false, A4, c4, by omega, rfl, rfl, by go_num, Lib.hid ⟨HB3.out.trans (below_next HO2.out HWS.out hg1), by rw [← HNF.out.1]; exact ho1, HNF.out.2⟩⟩
        case measure => simp [intOf]; omega
      | true =>
        go_wp2_with (first | (at_builtin; rw [hW.out]; refine wpList_append_src _ rfl (.tmp 78) (.tmp 80) wc.heap.size 51 RA (.agg #[.int .i64 0, .int .i64 0, .int .i64 0]) 3 24 rfl (by kernel_rfl) (by kernel_rfl) rfl (by decide) (by decide) _ k F rfl HO2.out (some ⟨w3.heap.size + 1, 0, none⟩) 1 1 rfl (fun h => by cases h) [.int .i64 y1, .int .i64 y2, .int .i64 y3] rfl HLI.out (by simp [Value.oneCell']) (by omega) HWS.out ?_; intro v1 w4 ho1 hg1 hv1))
        obtain ⟨A4, c4, rfl⟩ := own_form3 ho1
        go_roundw
        case rel => exact ⟨k + 1, ok, A4, c4, by omega, rfl, rfl, by go_num, Lib.hid ⟨HB3.out.trans (below_next HO2.out HWS.out hg1), by rw [← HNF.out.1]; exact ho1, HNF.out.2⟩⟩
        case measure => simp [intOf]; omega
    · obtain rfl : k = n := by omega
      rw [List.take_of_length_le (by have := HLN.out; omega)] at HI
      have hgot := HGOT.out.below HI.out.1
      rcases hgot with ⟨h1, h2, h3⟩ | ⟨h1, b, g, cc, h2, h3, h4, h5⟩
      · have hfk := HI.out.2.2
        rw [h1] at hfk
        subst h2 h3 hfk
        have HBF := Lib.hid (below2 HB2.out.1 HI.out.1)
        clear h1
        go_wp2_with fail
        go_ret
        exact ⟨rfl, HBF.out⟩
      · have hfk := HI.out.2.2
        rw [h1] at hfk
        subst h2 h3 hfk
        have hbn : 1 ≤ k ∧ k ≤ 16 ∧ bad a0 t0 xs = false := by
          unfold f0 at h1
          simp at h1
          exact ⟨h1.1.1, h1.1.2, h1.2⟩
        obtain ⟨a, t, X, ha0, ht0, ht16, hat, hXl, hXi, hof⟩ := of_rowX (by have := HLN.out; omega) hbn.2.2
        subst ha0 ht0
        rw [hof] at h5
        have hdo := HI.out.2.1
        rw [docL_ok hbn.2.2, hof] at hdo
        obtain ⟨gd, hgd⟩ : ∃ gd, AW = some ⟨gd, 0, none⟩ := by
          rcases hdo.2 with ⟨_, hn⟩ | ⟨gd, cap, cur, hv, _⟩
          · omega
          · injection hv with e1 e2 e3
            exact ⟨gd, e1⟩
        subst hgd
        obtain ⟨cd, hcd⟩ : ∃ cd, cw = cd := ⟨_, rfl⟩
        subst hcd
        obtain ⟨cd, hcd⟩ : ∃ cd, cw = cd := ⟨_, rfl⟩
        obtain ⟨n, hnk⟩ : ∃ n, k = n := ⟨_, rfl⟩
        have hXn : X.length = n := by have := HLN.out; omega
        rw [hcd, hnk] at hdo
        rw [hcd]
        have hn16 : n ≤ 16 := by omega
        have hn1 : 1 ≤ n := by omega
        have HAR : Hid (Ar2 w wr b g cc gd cd a t X X [(pb, plO a t)]) := Lib.hid (by
          have q := HI.out.1.size
          have q2 := HB2.out.1.size
          have hbw0 := HB1.out.1.size
          obtain ⟨-, hbb, -, -, -, -, -⟩ := own_some hdo
          have h5w := HGOT.out
          have hb9 : b < wc.heap.size ∧ g < wc.heap.size := by
            rcases h5w with ⟨e1, -, -⟩ | ⟨-, b', g', cc', e1, -, -, e4⟩
            · rw [e1] at h1; cases h1
            · cases e1
              have e5 := (Array.getElem?_eq_some_iff.1 e4.blk).1
              have e6 := (own_some e4.own).2.2.1
              have e7 := keep_block (.of_below (S := []) HI.out.1) e4.blk (by simp)
              have e8 := h5.blk
              rw [e7] at e8
              injection e8 with e8
              injection e8 with e8
              simp at e8
              exact ⟨e5, by omega⟩
          have hpb9 := (Array.getElem?_eq_some_iff.1 HB2.out.2).1
          have hpbe := hpb.out
          have hgb := (own_some h5.own).2.1
          refine ⟨h5, ?_, below2 HB2.out.1 HI.out.1, by omega, ⟨by omega, by omega⟩, fun p hp => ?_⟩
          · rw [hXn]
            exact own_base hdo q2
          · simp at hp
            subst hp
            exact ⟨keep_block (.of_below (S := []) HI.out.1) HB2.out.2 (by simp), by show pb ≠ g; omega, by show pb ≠ gd; omega⟩)
        have HXI := Lib.hid (And.intro hXn hXi)
        have hm200 : m ≤ 200 := by omega
        clear h1 h4 h5 hdo hof hXn hXi hcd hbn hlt
        subst hnk
        clear hk hn40
        go_wp2_with fail
        go_loopw [99] (fun i wr => ∃ (kk : Nat) (X4 : List Nat), kk ≤ m ∧ i = .int .i64 kk ∧ Hid (Ar2 w wr b g cc gd cd a t X4 X4 [(pb, plO a t)] ∧ X4.length = k ∧ ∀ x ∈ X4, In t x)) (fun i _ => m - (intOf i).toNat)
        case atStart => exact ⟨0, X, by omega, rfl, Lib.hid ⟨HAR.out, HXI.out.1, HXI.out.2⟩⟩
        case round =>
          obtain ⟨kk, X4, hkm, rfl, HI4⟩ := hrel
          by_cases hkl : kk < m
          · obtain ⟨o, ho⟩ : ∃ o, ops[kk]? = some o := ⟨_, List.getElem?_eq_getElem (by have := HLM.out; omega)⟩
            have hoR := HOR.out o (List.mem_of_getElem? ho)
            obtain ⟨sb, so, hB, hc⟩ := (HS.out.below HI4.out.1.bel).2.2.2 (by omega)
            have c0 := hc kk hkl 0 (by omega)
            have c1 := hc kk hkl 1 (by omega)
            have c2 := hc kk hkl 2 (by omega)
            rw [List.getElem?_map, ho] at c0 c1 c2
            obtain ⟨ok, ce, nn⟩ := o
            simp only [Option.map_some, Option.bind_some, encA, Nat.add_zero] at c0 c1 c2
            have c0 : wr.cell? ⟨sb, so + kk * 3, none⟩ = some (.int .i64 ok) := c0
            have c1 : wr.cell? ⟨sb, so + kk * 3 + 1, none⟩ = some (.int .i64 ce) := c1
            have c2 : wr.cell? ⟨sb, so + kk * 3 + 2, none⟩ = some (.int .i64 nn) := c2
            subst hB
            dsimp only at hoR
            obtain ⟨ob, hob⟩ : ∃ ob, Hid (wr.heap.size = ob) := ⟨_, Lib.hid rfl⟩
            obtain ⟨W, hW⟩ : ∃ W, Hid (wr.alloc (.cells #[.int .i64 ok, .int .i64 ce, .int .i64 nn] OT) = W) := ⟨_, Lib.hid rfl⟩
            have HAW : Hid (Ar2 w W b g cc gd cd a t X4 X4 [(pb, plO a t), (ob, opO ok ce nn)]) := Lib.hid (by
              rw [← hW.out, ← hob.out]
              exact HI4.out.1.more (opO ok ce nn))
            have HNR := Lib.hid hoR
            clear hc ho hoR
            go_upto_region 22 with (fail)
            rw [hW.out, hob.out]
            clear c0 c1 c2
            obtain ⟨o0, o1, o2⟩ := op_cells (HAW.out.prk (ob, opO ok ce nn) (by simp)).1
            go_cut [17] from 103 to 112 (fun s wx => ∃ th : Bool, s = .bool th ∧ wx = W ∧ Hid (th = decide (0 ≤ ce ∧ ce < k)))
            case first =>
              by_cases h1 : 0 ≤ ce
              · have d1 : decide (0 ≤ ce) = true := by simpa using h1
                by_cases h2 : ce < k
                · have d2 : decide (ce < (k : Int)) = true := by simpa using h2
                  have HTH : Hid (true = decide (0 ≤ ce ∧ ce < k)) := Lib.hid (by simp [h1, h2])
                  clear h1 h2
                  go_wp2_with fail
                  go_meet
                  exact ⟨true, rfl, rfl, HTH⟩
                · have d2 : decide (ce < (k : Int)) = false := by simpa using h2
                  have HTH : Hid (false = decide (0 ≤ ce ∧ ce < k)) := Lib.hid (by simp [h1, h2])
                  clear h1 h2
                  go_wp2_with fail
                  go_meet
                  exact ⟨false, rfl, rfl, HTH⟩
              · have d1 : decide (0 ≤ ce) = false := by simpa using h1
                have HTH : Hid (false = decide (0 ≤ ce ∧ ce < k)) := Lib.hid (by simp [h1])
                clear h1
                go_wp2_with fail
                go_meet
                exact ⟨false, rfl, rfl, HTH⟩
            case rest =>
            obtain ⟨th, rfl, hwx, HTH⟩ := hcut
            subst hwx
            go_upto_block 4 with (fail)
            obtain ⟨WB, hWB⟩ : ∃ WB, Hid (wc = WB) := ⟨_, Lib.hid rfl⟩
            rw [hWB.out] at HAW o0 o1 o2 ⊢
            go_cut [17] from 18 to 29 (fun s17 wx => ∃ X' : List Nat, Hid (Ar2 w wx b g cc gd cd a t X' X' [(pb, plO a t), (ob, opO ok ce nn)] ∧ X'.length = k ∧ ∀ x ∈ X', In t x))
            case first =>
              have hTH := HTH.out
              obtain ⟨X5z, hX5z⟩ : ∃ z : Nat, z = 0 := ⟨0, rfl⟩
              clear hX5z
              by_cases k0 : ok = 0
              · have e0 : (ok == 0) = true := by simpa using k0
                clear k0
                cases th with
                | true =>
                  obtain ⟨j, hj⟩ : ∃ j : Nat, ce = (j : Int) := ⟨ce.toNat, by have := of_decide_eq_true hTH.symm; omega⟩
                  have hjk : j < k := by have := of_decide_eq_true hTH.symm; omega
                  obtain ⟨x, hx⟩ : ∃ x, X4[j]? = some x := ⟨_, List.getElem?_eq_getElem (by have := HI4.out.2.1; omega)⟩
                  have HCE := Lib.hid hj
                  have hxi := HI4.out.2.2 x (List.mem_of_getElem? hx)
                  rw [hj] at o1
                  have HW1 := Lib.hid (HAW.out.want1 hx)
                  have HIN : Hid ((X4.set j a).length = k ∧ ∀ y ∈ X4.set j a, In t y) := Lib.hid ⟨by rw [List.length_set]; exact HI4.out.2.1, fun y hy => by
                    rcases List.mem_or_eq_of_mem_set hy with h | h
                    · exact HI4.out.2.2 y h
                    · rw [h]; exact hat⟩
                  obtain ⟨z, hz⟩ : ∃ z, wz a x = z := ⟨_, rfl⟩
                  obtain ⟨eb, heb⟩ : ∃ eb, (x == a) = eb := ⟨_, rfl⟩
                  have hz0 : ((z : Int) != 0) = !eb := by
                    rw [← hz, ← heb, ← wz_zero hxi.1]
                    rfl
                  have HW2 : Hid (∀ W', Ar2 w W' b g cc gd cd a t (X4.set j a) X4 [(pb, plO a t), (ob, opO ok ce nn)] → Calls Try.prog 18 #[.pointer (some ⟨gd, j * 3, none⟩)] W' fun e w' => e = .returned (.int .i64 z) ∧ Ar2 w w' b g cc gd cd a t (X4.set j a) (X4.set j a) [(pb, plO a t), (ob, opO ok ce nn)]) := Lib.hid fun W' h => by
                    have := h.want2 hx
                    rw [hz] at this
                    exact this
                  rw [hz, heb] at HW1
                  clear hTH hj hx hxi hz heb
                  go_wp2_with fail
                  refine HW1.out.mono ?_
                  rintro e w7 ⟨rfl, h7⟩
                  have HA7 := Lib.hid h7
                  obtain ⟨s0, s1, s2⟩ := op_cells (h7.prk (ob, opO ok ce nn) (by simp)).1
                  rw [HCE.out] at s1
                  have HC2 := Lib.hid (HW2.out w7 h7)
                  have hjn9 : (j : Int) < (k : Int) := by omega
                  clear h7
                  cases eb with
                  | true =>
                    go_wp2_with fail
                    refine HC2.out.mono ?_
                    rintro e w8 ⟨rfl, h8⟩
                    have HA8 := Lib.hid h8
                    clear h8
                    go_wp2_with fail
                    go_meet
                    exact ⟨_, Lib.hid ⟨HA8.out, HIN.out.1, HIN.out.2⟩⟩
                  | false =>
                    go_wp2_with fail
                    refine HC2.out.mono ?_
                    rintro e w8 ⟨rfl, h8⟩
                    have HA8 := Lib.hid h8
                    clear h8
                    go_wp2_with fail
                    go_meet
                    exact ⟨_, Lib.hid ⟨HA8.out, HIN.out.1, HIN.out.2⟩⟩
                | false =>
                  have hno : ¬ (0 ≤ ce ∧ ce < ((rowX a t X4).length : Nat)) := by rw [rowX_len, HI4.out.2.1]; simpa using hTH.symm
                  have HW1 := Lib.hid (bwant_no b g cc ce _ WB HAW.out.bk hno)
                  clear hTH hno
                  go_wp2_with fail
                  refine HW1.out.mono ?_
                  rintro e w7 ⟨rfl, rfl⟩
                  go_wp2_with fail
                  go_meet
                  exact ⟨X4, Lib.hid ⟨HAW.out, HI4.out.2.1, HI4.out.2.2⟩⟩
              have e0 : (ok == 0) = false := by simpa using k0
              clear k0
              by_cases k1 : ok = 1
              · have e1 : (ok == 1) = true := by simpa using k1
                clear k1
                cases th with
                | true =>
                  obtain ⟨j, hj⟩ : ∃ j : Nat, ce = (j : Int) := ⟨ce.toNat, by have := of_decide_eq_true hTH.symm; omega⟩
                  have hjk : j < k := by have := of_decide_eq_true hTH.symm; omega
                  obtain ⟨x, hx⟩ : ∃ x, X4[j]? = some x := ⟨_, List.getElem?_eq_getElem (by have := HI4.out.2.1; omega)⟩
                  have HCE := Lib.hid hj
                  have hxi := HI4.out.2.2 x (List.mem_of_getElem? hx)
                  rw [hj] at o1
                  have hf1 := HAW.out.find1 ht16 hat hx nn
                  obtain ⟨eb, heb⟩ : ∃ eb, (x == a) = eb := ⟨_, rfl⟩
                  obtain ⟨q, hq⟩ : ∃ q, edgeB a nn t = q := ⟨_, rfl⟩
                  obtain ⟨X5, hX5⟩ : ∃ X5, (if q = true then X4.set j nn.toNat else X4) = X5 := ⟨_, rfl⟩
                  obtain ⟨z, hz⟩ : ∃ z : Nat, (if q = true then wz a x else 0) = z := ⟨_, rfl⟩
                  have hz0 : q = true → ((z : Int) == 0) = eb := fun e => by
                    rw [← hz, ← heb, if_pos e, wz_zero hxi.1]
                  have HX5 : Hid (X5.length = k ∧ ∀ y ∈ X5, In t y) := Lib.hid (by
                    rw [← hX5]
                    by_cases e : q = true
                    · rw [if_pos e]
                      refine ⟨by rw [List.length_set]; exact HI4.out.2.1, fun y hy => ?_⟩
                      rcases List.mem_or_eq_of_mem_set hy with h | h
                      · exact HI4.out.2.2 y h
                      · rw [h]
                        rw [← hq] at e
                        have := edge_range e
                        exact ⟨by omega, by omega⟩
                    · rw [if_neg e]
                      exact HI4.out.2)
                  have HF2 : Hid (∀ W', Ar2 w W' b g cc gd cd a t X5 X4 [(pb, plO a t), (ob, opO ok ce nn)] → Calls Try.prog 19 #[.pointer (some ⟨gd, j * 3, none⟩), .int .i64 nn] W' fun e w' => e = .returned (.tuple #[.int .i64 z, .bool q]) ∧ Ar2 w w' b g cc gd cd a t X5 X5 [(pb, plO a t), (ob, opO ok ce nn)]) := Lib.hid fun W' h => by
                    have := h.find2 ht16 hat hx nn HNR.out
                    rw [hq, hz, hX5] at this
                    exact this
                  rw [hq, heb, hz, hX5] at hf1
                  have HF1 := Lib.hid hf1
                  obtain ⟨HZ0⟩ : Nonempty (Hid (q = true → ((z : Int) == 0) = eb)) := ⟨Lib.hid hz0⟩
                  clear hTH hj hx hxi hz heb hq hX5 hf1 hz0
                  have hjn9 : (j : Int) < (k : Int) := by omega
                  obtain ⟨fe, hfe⟩ : ∃ fe, (q && eb) = fe := ⟨_, rfl⟩
                  obtain ⟨fi, hfi⟩ : ∃ fi : Int, (if q = true then 0 else 1) = fi := ⟨_, rfl⟩
                  rw [hfe, hfi] at HF1
                  have HFE := Lib.hid (And.intro hfe hfi)
                  clear hfe hfi
                  go_wp2_with fail
                  refine HF1.out.mono ?_
                  rintro e w7 ⟨rfl, h7⟩
                  have HA7 := Lib.hid h7
                  clear h7
                  go_wp2_with fail
                  obtain ⟨W7, hW7⟩ : ∃ W7, Hid (w7 = W7) := ⟨_, Lib.hid rfl⟩
                  rw [hW7.out] at HA7 ⊢
                  have hS0 : Ar2 w W7.drew b g cc gd cd a t X5 X4 [(pb, plO a t), (ob, opO ok ce nn)] := HA7.out.below (below_drewN 1 W7)
                  refine wp_region_done (fun dnf => fun W => Ar2 w W b g cc gd cd a t X5 (if (dnf 6) then X5 else X4) [(pb, plO a t), (ob, opO ok ce nn)]) (fun _ _ => True) (fun k u v => (k = 6 → (fun _ _ => True) u v) ∧ (¬ k = 6 → (fun _ _ => True) u v)) (fun a i => match i with
                      | 0 => (fun v _ => v = .slice (some ⟨gd, 0, none⟩) k cd)
                      | 1 => (fun v _ => v = .pointer (some ⟨ob, 1, none⟩))
                      | 2 => (fun v _ => v = .int .i64 (j : Int))
                      | 3 => (fun v _ => v = .pointer (some ⟨gd, j * 3, none⟩))
                      | 4 => (fun v _ => v = .pointer (some ⟨ob, 2, none⟩))
                      | 5 => (fun v _ => v = .int .i64 nn)
                      | 6 => (fun v _ => v = .tuple #[.int .i64 z, .bool q])
                      | 7 => (fun v _ => v = .tuple #[.int .i64 z, .bool q])
                      | 8 => (fun v _ => v = .int .i64 z)
                      | 9 => (fun v _ => v = .bool q)
                      | 10 => (fun v _ => v = .int .i64 z)
                      | 11 => (fun v _ => v = .bool q)
                      | _ => (fun _ _ => True)) #[0, 0, 2, 7, 0, 16, 63, 127, 255, 255, 511, 2047] #[0, 0, 2, 5, 0, 16, 40, 64, 128, 128, 256, 512] 4095 (by kernel_rfl) 12 rfl (fun m hm => by subst hm; kernel_rfl) (by kernel_rfl) (fun w => trivial) (fun u v w h1 h2 => trivial) ?_ ?_ (hS0) ?_ ?_
                  · intro k u v hk hr
                    by_cases hs6 : k = 6
                    · have h := hr.1 hs6; exact trivial
                    have h := hr.2 hs6; exact trivial
                  · intro i hi
                    rcases (by omega : i = 0 ∨ i = 1 ∨ i = 2 ∨ i = 3 ∨ i = 4 ∨ i = 5 ∨ i = 6 ∨ i = 7 ∨ i = 8 ∨ i = 9 ∨ i = 10 ∨ i = 11) with rfl | rfl | rfl | rfl | rfl | rfl | rfl | rfl | rfl | rfl | rfl | rfl
                    · intro k hk y hy hyt v w w' h hr
                      exact h
                    · intro k hk y hy hyt v w w' h hr
                      exact h
                    · intro k hk y hy hyt v w w' h hr
                      exact h
                    · intro k hk y hy hyt v w w' h hr
                      exact h
                    · intro k hk y hy hyt v w w' h hr
                      exact h
                    · intro k hk y hy hyt v w w' h hr
                      exact h
                    · intro k hk y hy hyt v w w' h hr
                      exact h
                    · intro k hk y hy hyt v w w' h hr
                      exact h
                    · intro k hk y hy hyt v w w' h hr
                      exact h
                    · intro k hk y hy hyt v w w' h hr
                      exact h
                    · intro k hk y hy hyt v w w' h hr
                      exact h
                    · intro k hk y hy hyt v w w' h hr
                      exact h
                  · intro i hi
                    rcases (by omega : i = 0 ∨ i = 1 ∨ i = 2 ∨ i = 3 ∨ i = 4 ∨ i = 5 ∨ i = 6 ∨ i = 7 ∨ i = 8 ∨ i = 9 ∨ i = 10 ∨ i = 11) with rfl | rfl | rfl | rfl | rfl | rfl | rfl | rfl | rfl | rfl | rfl | rfl
                    · -- 0: Op.move (Operand.tmp 9)
                      intro l hl vs W dn e1 e2 e3 hS hR hp
                      have f6 : dn 6 = false := e3 6 (by kernel_rfl)
                      replace hS : (fun W => Ar2 w W b g cc gd cd a t X5 (if (dn 6) then X5 else X4) [(pb, plO a t), (ob, opO ok ce nn)]) W := hS
                      rw [f6] at hS
                      have g6 : (dn 6 || ((0 : Nat) == 6)) = false := by rw [f6]; rfl
                      refine OpGoal.imp (S1 := fun W => Ar2 w W b g cc gd cd a t X5 (if false then X5 else X4) [(pb, plO a t), (ob, opO ok ce nn)]) (fun W' h => ?_) ?_
                      · show (fun W => Ar2 w W b g cc gd cd a t X5 (if (dn 6 || ((0 : Nat) == 6)) then X5 else X4) [(pb, plO a t), (ob, opO ok ce nn)]) W'
                        rw [g6]
                        exact h
                      clear g6 e1 e2 e3
                      obtain rfl : l = [] := hl.symm.trans (by kernel_rfl)
                      clear hp hl
                      refine opgoal (_) (some 160) rfl rfl fun K hK => ?_
                      refine Runs.mk ?_
                      simp only [putAll]
                      go_simp
                      refine hK _ _ ?_ hS ⟨fun h => absurd h (by decide), fun h6 => ((fun w => trivial) W)⟩ _ rfl rfl
                      first | rfl | go_simp | simp
                    · -- 1: Op.fieldAddr 56 (Operand.tmp 16) 1
                      intro l hl vs W dn e1 e2 e3 hS hR hp
                      have f6 : dn 6 = false := e3 6 (by kernel_rfl)
                      replace hS : (fun W => Ar2 w W b g cc gd cd a t X5 (if (dn 6) then X5 else X4) [(pb, plO a t), (ob, opO ok ce nn)]) W := hS
                      rw [f6] at hS
                      have g6 : (dn 6 || ((1 : Nat) == 6)) = false := by rw [f6]; rfl
                      refine OpGoal.imp (S1 := fun W => Ar2 w W b g cc gd cd a t X5 (if false then X5 else X4) [(pb, plO a t), (ob, opO ok ce nn)]) (fun W' h => ?_) ?_
                      · show (fun W => Ar2 w W b g cc gd cd a t X5 (if (dn 6 || ((1 : Nat) == 6)) then X5 else X4) [(pb, plO a t), (ob, opO ok ce nn)]) W'
                        rw [g6]
                        exact h
                      clear g6 e1 e2 e3
                      obtain rfl : l = [] := hl.symm.trans (by kernel_rfl)
                      clear hp hl
                      refine opgoal (_) (some 161) rfl rfl fun K hK => ?_
                      refine Runs.mk ?_
                      simp only [putAll]
                      go_simp
                      refine hK _ _ ?_ hS ⟨fun h => absurd h (by decide), fun h6 => ((fun w => trivial) W)⟩ _ rfl rfl
                      first | rfl | go_simp | simp
                    · -- 2: Op.load 3 (Operand.tmp 161)
                      intro l hl vs W dn e1 e2 e3 hS hR hp
                      have f6 : dn 6 = false := e3 6 (by kernel_rfl)
                      replace hS : (fun W => Ar2 w W b g cc gd cd a t X5 (if (dn 6) then X5 else X4) [(pb, plO a t), (ob, opO ok ce nn)]) W := hS
                      rw [f6] at hS
                      have g6 : (dn 6 || ((2 : Nat) == 6)) = false := by rw [f6]; rfl
                      refine OpGoal.imp (S1 := fun W => Ar2 w W b g cc gd cd a t X5 (if false then X5 else X4) [(pb, plO a t), (ob, opO ok ce nn)]) (fun W' h => ?_) ?_
                      · show (fun W => Ar2 w W b g cc gd cd a t X5 (if (dn 6 || ((2 : Nat) == 6)) then X5 else X4) [(pb, plO a t), (ob, opO ok ce nn)]) W'
                        rw [g6]
                        exact h
                      clear g6 e1 e2 e3
                      obtain rfl : l = [(1, 161)] := hl.symm.trans (by kernel_rfl)
                      have p1 : vs 1 = _ := hp 1 (by decide) (by decide)
                      clear hp hl
                      refine opgoal (_) (some 162) rfl rfl fun K hK => ?_
                      obtain ⟨f0, f1, f2⟩ := op_cells (hS.prk (ob, opO ok ce nn) (by simp)).1
                      rw [HCE.out] at f1
                      refine Runs.mk ?_
                      simp only [putAll]
                      go_simp
                      refine hK _ _ ?_ hS ⟨fun h => absurd h (by decide), fun h6 => ((fun w => trivial) W)⟩ _ rfl rfl
                      first | rfl | go_simp | simp
                    · -- 3: Op.indexAddr 51 (Operand.tmp 160) (Operand.tmp 162)
                      intro l hl vs W dn e1 e2 e3 hS hR hp
                      have f6 : dn 6 = false := e3 6 (by kernel_rfl)
                      replace hS : (fun W => Ar2 w W b g cc gd cd a t X5 (if (dn 6) then X5 else X4) [(pb, plO a t), (ob, opO ok ce nn)]) W := hS
                      rw [f6] at hS
                      have g6 : (dn 6 || ((3 : Nat) == 6)) = false := by rw [f6]; rfl
                      refine OpGoal.imp (S1 := fun W => Ar2 w W b g cc gd cd a t X5 (if false then X5 else X4) [(pb, plO a t), (ob, opO ok ce nn)]) (fun W' h => ?_) ?_
                      · show (fun W => Ar2 w W b g cc gd cd a t X5 (if (dn 6 || ((3 : Nat) == 6)) then X5 else X4) [(pb, plO a t), (ob, opO ok ce nn)]) W'
                        rw [g6]
                        exact h
                      clear g6 e1 e2 e3
                      obtain rfl : l = [(0, 160), (1, 161), (2, 162)] := hl.symm.trans (by kernel_rfl)
                      have p0 : vs 0 = _ := hp 0 (by decide) (by decide)
                      have p2 : vs 2 = _ := hp 2 (by decide) (by decide)
                      clear hp hl
                      refine opgoal (_) (some 163) rfl rfl fun K hK => ?_
                      refine Runs.mk ?_
                      simp only [putAll]
                      go_simp
                      refine hK _ _ ?_ hS ⟨fun h => absurd h (by decide), fun h6 => ((fun w => trivial) W)⟩ _ rfl rfl
                      first | rfl | go_simp | simp
                    · -- 4: Op.fieldAddr 56 (Operand.tmp 16) 2
                      intro l hl vs W dn e1 e2 e3 hS hR hp
                      have f6 : dn 6 = false := e3 6 (by kernel_rfl)
                      replace hS : (fun W => Ar2 w W b g cc gd cd a t X5 (if (dn 6) then X5 else X4) [(pb, plO a t), (ob, opO ok ce nn)]) W := hS
                      rw [f6] at hS
                      have g6 : (dn 6 || ((4 : Nat) == 6)) = false := by rw [f6]; rfl
                      refine OpGoal.imp (S1 := fun W => Ar2 w W b g cc gd cd a t X5 (if false then X5 else X4) [(pb, plO a t), (ob, opO ok ce nn)]) (fun W' h => ?_) ?_
                      · show (fun W => Ar2 w W b g cc gd cd a t X5 (if (dn 6 || ((4 : Nat) == 6)) then X5 else X4) [(pb, plO a t), (ob, opO ok ce nn)]) W'
                        rw [g6]
                        exact h
                      clear g6 e1 e2 e3
                      obtain rfl : l = [] := hl.symm.trans (by kernel_rfl)
                      clear hp hl
                      refine opgoal (_) (some 164) rfl rfl fun K hK => ?_
                      refine Runs.mk ?_
                      simp only [putAll]
                      go_simp
                      refine hK _ _ ?_ hS ⟨fun h => absurd h (by decide), fun h6 => ((fun w => trivial) W)⟩ _ rfl rfl
                      first | rfl | go_simp | simp
                    · -- 5: Op.load 3 (Operand.tmp 164)
                      intro l hl vs W dn e1 e2 e3 hS hR hp
                      have f6 : dn 6 = false := e3 6 (by kernel_rfl)
                      replace hS : (fun W => Ar2 w W b g cc gd cd a t X5 (if (dn 6) then X5 else X4) [(pb, plO a t), (ob, opO ok ce nn)]) W := hS
                      rw [f6] at hS
                      have g6 : (dn 6 || ((5 : Nat) == 6)) = false := by rw [f6]; rfl
                      refine OpGoal.imp (S1 := fun W => Ar2 w W b g cc gd cd a t X5 (if false then X5 else X4) [(pb, plO a t), (ob, opO ok ce nn)]) (fun W' h => ?_) ?_
                      · show (fun W => Ar2 w W b g cc gd cd a t X5 (if (dn 6 || ((5 : Nat) == 6)) then X5 else X4) [(pb, plO a t), (ob, opO ok ce nn)]) W'
                        rw [g6]
                        exact h
                      clear g6 e1 e2 e3
                      obtain rfl : l = [(4, 164)] := hl.symm.trans (by kernel_rfl)
                      have p4 : vs 4 = _ := hp 4 (by decide) (by decide)
                      clear hp hl
                      refine opgoal (_) (some 165) rfl rfl fun K hK => ?_
                      obtain ⟨f0, f1, f2⟩ := op_cells (hS.prk (ob, opO ok ce nn) (by simp)).1
                      rw [HCE.out] at f1
                      refine Runs.mk ?_
                      simp only [putAll]
                      go_simp
                      refine hK _ _ ?_ hS ⟨fun h => absurd h (by decide), fun h6 => ((fun w => trivial) W)⟩ _ rfl rfl
                      first | rfl | go_simp | simp
                    · -- 6: Op.call { callee := Callee.value (Operand.func 19), args := #[Operand.tmp 163, Operand.tmp 165], argTypes := #[52, 3] }
                      intro l hl vs W dn e1 e2 e3 hS hR hp
                      have f6 : dn 6 = false := e1
                      replace hS : (fun W => Ar2 w W b g cc gd cd a t X5 (if (dn 6) then X5 else X4) [(pb, plO a t), (ob, opO ok ce nn)]) W := hS
                      rw [f6] at hS
                      have g6 : (dn 6 || ((6 : Nat) == 6)) = true := by rw [f6]; rfl
                      refine OpGoal.imp (S1 := fun W => Ar2 w W b g cc gd cd a t X5 (if true then X5 else X4) [(pb, plO a t), (ob, opO ok ce nn)]) (fun W' h => ?_) ?_
                      · show (fun W => Ar2 w W b g cc gd cd a t X5 (if (dn 6 || ((6 : Nat) == 6)) then X5 else X4) [(pb, plO a t), (ob, opO ok ce nn)]) W'
                        rw [g6]
                        exact h
                      clear g6 e1 e2 e3
                      obtain rfl : l = [(0, 160), (1, 161), (2, 162), (3, 163), (4, 164), (5, 165)] := hl.symm.trans (by kernel_rfl)
                      have p3 : vs 3 = _ := hp 3 (by decide) (by decide)
                      have p5 : vs 5 = _ := hp 5 (by decide) (by decide)
                      clear hp hl
                      refine opgoal (_) (some 166) rfl rfl fun K hK => ?_
                      refine Runs.mk ?_
                      simp only [putAll]
                      go_simp
                      refine (HF2.out W hS).mono ?_
                      rintro e w' ⟨rfl, hn⟩
                      go_simp
                      exact hK _ _ rfl hn ⟨fun _ => trivial, fun h => absurd rfl h⟩ _ rfl rfl
                    · -- 7: Op.move (Operand.tmp 166)
                      intro l hl vs W dn e1 e2 e3 hS hR hp
                      have f6 : dn 6 = true := e2 6 (by kernel_rfl)
                      replace hS : (fun W => Ar2 w W b g cc gd cd a t X5 (if (dn 6) then X5 else X4) [(pb, plO a t), (ob, opO ok ce nn)]) W := hS
                      rw [f6] at hS
                      have g6 : (dn 6 || ((7 : Nat) == 6)) = true := by rw [f6]; rfl
                      refine OpGoal.imp (S1 := fun W => Ar2 w W b g cc gd cd a t X5 (if true then X5 else X4) [(pb, plO a t), (ob, opO ok ce nn)]) (fun W' h => ?_) ?_
                      · show (fun W => Ar2 w W b g cc gd cd a t X5 (if (dn 6 || ((7 : Nat) == 6)) then X5 else X4) [(pb, plO a t), (ob, opO ok ce nn)]) W'
                        rw [g6]
                        exact h
                      clear g6 e1 e2 e3
                      obtain rfl : l = [(0, 160), (1, 161), (2, 162), (3, 163), (4, 164), (5, 165), (6, 166)] := hl.symm.trans (by kernel_rfl)
                      have p6 : vs 6 = _ := hp 6 (by decide) (by decide)
                      clear hp hl
                      refine opgoal ({ dst := some 159, op := Op.move (Operand.tmp 166), type := 27, pos := "law.go:76", after := #[{ on := 6, ground := Ground.data }], guard := none }) (some 159) rfl rfl fun K hK => ?_
                      refine runs_move (wanted_none rfl) (.tmp 166) rfl (.tuple #[.int .i64 z, .bool q]) (eval_putAll (j := 6) (by simp) (by decide) (by intro k hk; simpa using hk) p6) ?_
                      exact hK _ _ rfl hS ⟨fun h => absurd h (by decide), fun _ => trivial⟩ _ put_dfs (put_slot (by simp))
                    · -- 8: Op.extract (Operand.tmp 159) 0
                      intro l hl vs W dn e1 e2 e3 hS hR hp
                      have f6 : dn 6 = true := e2 6 (by kernel_rfl)
                      replace hS : (fun W => Ar2 w W b g cc gd cd a t X5 (if (dn 6) then X5 else X4) [(pb, plO a t), (ob, opO ok ce nn)]) W := hS
                      rw [f6] at hS
                      have g6 : (dn 6 || ((8 : Nat) == 6)) = true := by rw [f6]; rfl
                      refine OpGoal.imp (S1 := fun W => Ar2 w W b g cc gd cd a t X5 (if true then X5 else X4) [(pb, plO a t), (ob, opO ok ce nn)]) (fun W' h => ?_) ?_
                      · show (fun W => Ar2 w W b g cc gd cd a t X5 (if (dn 6 || ((8 : Nat) == 6)) then X5 else X4) [(pb, plO a t), (ob, opO ok ce nn)]) W'
                        rw [g6]
                        exact h
                      clear g6 e1 e2 e3
                      obtain rfl : l = [(0, 160), (1, 161), (2, 162), (3, 163), (4, 164), (5, 165), (6, 166), (7, 159)] := hl.symm.trans (by kernel_rfl)
                      have p7 : vs 7 = _ := hp 7 (by decide) (by decide)
                      clear hp hl
                      refine opgoal ({ dst := some 167, op := Op.extract (Operand.tmp 159) 0, type := 3, pos := "law.go:76", after := #[{ on := 7, ground := Ground.data }], guard := none }) (some 167) rfl rfl fun K hK => ?_
                      refine runs_extract (wanted_none rfl) (.tmp 159) 0 rfl #[.int .i64 z, .bool q] (.int .i64 z) (eval_putAll (j := 7) (by simp) (by decide) (by intro k hk; simpa using hk) p7) rfl ?_
                      exact hK _ _ rfl hS ⟨fun h => absurd h (by decide), fun _ => trivial⟩ _ put_dfs (put_slot (by simp))
                    · -- 9: Op.extract (Operand.tmp 159) 1
                      intro l hl vs W dn e1 e2 e3 hS hR hp
                      have f6 : dn 6 = true := e2 6 (by kernel_rfl)
                      replace hS : (fun W => Ar2 w W b g cc gd cd a t X5 (if (dn 6) then X5 else X4) [(pb, plO a t), (ob, opO ok ce nn)]) W := hS
                      rw [f6] at hS
                      have g6 : (dn 6 || ((9 : Nat) == 6)) = true := by rw [f6]; rfl
                      refine OpGoal.imp (S1 := fun W => Ar2 w W b g cc gd cd a t X5 (if true then X5 else X4) [(pb, plO a t), (ob, opO ok ce nn)]) (fun W' h => ?_) ?_
                      · show (fun W => Ar2 w W b g cc gd cd a t X5 (if (dn 6 || ((9 : Nat) == 6)) then X5 else X4) [(pb, plO a t), (ob, opO ok ce nn)]) W'
                        rw [g6]
                        exact h
                      clear g6 e1 e2 e3
                      obtain rfl : l = [(0, 160), (1, 161), (2, 162), (3, 163), (4, 164), (5, 165), (6, 166), (7, 159)] := hl.symm.trans (by kernel_rfl)
                      have p7 : vs 7 = _ := hp 7 (by decide) (by decide)
                      clear hp hl
                      refine opgoal ({ dst := some 168, op := Op.extract (Operand.tmp 159) 1, type := 4, pos := "law.go:76", after := #[{ on := 7, ground := Ground.data }, { on := 10, ground := Ground.gcOnly Departure.lateStores }], guard := none }) (some 168) rfl rfl fun K hK => ?_
                      refine runs_extract (wanted_none rfl) (.tmp 159) 1 rfl #[.int .i64 z, .bool q] (.bool q) (eval_putAll (j := 7) (by simp) (by decide) (by intro k hk; simpa using hk) p7) rfl ?_
                      exact hK _ _ rfl hS ⟨fun h => absurd h (by decide), fun _ => trivial⟩ _ put_dfs (put_slot (by simp))
                    · -- 10: Op.assign (Operand.tmp 167)
                      intro l hl vs W dn e1 e2 e3 hS hR hp
                      have f6 : dn 6 = true := e2 6 (by kernel_rfl)
                      replace hS : (fun W => Ar2 w W b g cc gd cd a t X5 (if (dn 6) then X5 else X4) [(pb, plO a t), (ob, opO ok ce nn)]) W := hS
                      rw [f6] at hS
                      have g6 : (dn 6 || ((10 : Nat) == 6)) = true := by rw [f6]; rfl
                      refine OpGoal.imp (S1 := fun W => Ar2 w W b g cc gd cd a t X5 (if true then X5 else X4) [(pb, plO a t), (ob, opO ok ce nn)]) (fun W' h => ?_) ?_
                      · show (fun W => Ar2 w W b g cc gd cd a t X5 (if (dn 6 || ((10 : Nat) == 6)) then X5 else X4) [(pb, plO a t), (ob, opO ok ce nn)]) W'
                        rw [g6]
                        exact h
                      clear g6 e1 e2 e3
                      obtain rfl : l = [(0, 160), (1, 161), (2, 162), (3, 163), (4, 164), (5, 165), (6, 166), (7, 159), (8, 167)] := hl.symm.trans (by kernel_rfl)
                      have p8 : vs 8 = _ := hp 8 (by decide) (by decide)
                      clear hp hl
                      refine opgoal ({ dst := some 25, op := Op.assign (Operand.tmp 167), type := 3, pos := "law.go:76", after := #[{ on := 8, ground := Ground.data }, { on := 6, ground := Ground.chain }, { on := 0, ground := Ground.phase }, { on := 1, ground := Ground.phase }, { on := 2, ground := Ground.phase }, { on := 3, ground := Ground.phase }, { on := 4, ground := Ground.phase }, { on := 5, ground := Ground.phase }, { on := 6, ground := Ground.phase }, { on := 7, ground := Ground.phase }, { on := 8, ground := Ground.phase }, { on := 9, ground := Ground.textOnly Departure.lateStores }], guard := none }) (some 25) rfl rfl fun K hK => ?_
                      refine runs_assign (wanted_none rfl) (.tmp 167) rfl (.int .i64 z) (eval_putAll (j := 8) (by simp) (by decide) (by intro k hk; simpa using hk) p8) ?_
                      exact hK _ _ rfl hS ⟨fun h => absurd h (by decide), fun _ => trivial⟩ _ put_dfs (put_slot (by simp))
                    · -- 11: Op.assign (Operand.tmp 168)
                      intro l hl vs W dn e1 e2 e3 hS hR hp
                      have f6 : dn 6 = true := e2 6 (by kernel_rfl)
                      replace hS : (fun W => Ar2 w W b g cc gd cd a t X5 (if (dn 6) then X5 else X4) [(pb, plO a t), (ob, opO ok ce nn)]) W := hS
                      rw [f6] at hS
                      have g6 : (dn 6 || ((11 : Nat) == 6)) = true := by rw [f6]; rfl
                      refine OpGoal.imp (S1 := fun W => Ar2 w W b g cc gd cd a t X5 (if true then X5 else X4) [(pb, plO a t), (ob, opO ok ce nn)]) (fun W' h => ?_) ?_
                      · show (fun W => Ar2 w W b g cc gd cd a t X5 (if (dn 6 || ((11 : Nat) == 6)) then X5 else X4) [(pb, plO a t), (ob, opO ok ce nn)]) W'
                        rw [g6]
                        exact h
                      clear g6 e1 e2 e3
                      obtain rfl : l = [(0, 160), (1, 161), (2, 162), (3, 163), (4, 164), (5, 165), (6, 166), (7, 159), (8, 167), (9, 168), (10, 25)] := hl.symm.trans (by kernel_rfl)
                      have p9 : vs 9 = _ := hp 9 (by decide) (by decide)
                      clear hp hl
                      refine opgoal ({ dst := some 26, op := Op.assign (Operand.tmp 168), type := 4, pos := "law.go:76", after := #[{ on := 9, ground := Ground.data }, { on := 10, ground := Ground.chain }, { on := 0, ground := Ground.phase }, { on := 1, ground := Ground.phase }, { on := 2, ground := Ground.phase }, { on := 3, ground := Ground.phase }, { on := 4, ground := Ground.phase }, { on := 5, ground := Ground.phase }, { on := 6, ground := Ground.phase }, { on := 7, ground := Ground.phase }, { on := 8, ground := Ground.phase }, { on := 9, ground := Ground.phase }, { on := 10, ground := Ground.phase }], guard := none }) (some 26) rfl rfl fun K hK => ?_
                      refine runs_assign (wanted_none rfl) (.tmp 168) rfl (.bool q) (eval_putAll (j := 9) (by simp) (by decide) (by intro k hk; simpa using hk) p9) ?_
                      exact hK _ _ rfl hS ⟨fun h => absurd h (by decide), fun _ => trivial⟩ _ put_dfs (put_slot (by simp))
                  · intro l hl vs W dn hd hS hR hp
                    replace hS : (fun W => Ar2 w W b g cc gd cd a t X5 (if (dn 6) then X5 else X4) [(pb, plO a t), (ob, opO ok ce nn)]) W := hS
                    rw [hd 6 (by decide)] at hS
                    obtain rfl : l = [(0, 160), (1, 161), (2, 162), (3, 163), (4, 164), (5, 165), (6, 166), (7, 159), (8, 167), (9, 168), (10, 25), (11, 26)] := hl.symm.trans (by kernel_rfl)
                    have p0 : vs 0 = _ := hp 0 (by decide) (by decide)
                    have p1 : vs 1 = _ := hp 1 (by decide) (by decide)
                    have p2 : vs 2 = _ := hp 2 (by decide) (by decide)
                    have p3 : vs 3 = _ := hp 3 (by decide) (by decide)
                    have p4 : vs 4 = _ := hp 4 (by decide) (by decide)
                    have p5 : vs 5 = _ := hp 5 (by decide) (by decide)
                    have p6 : vs 6 = _ := hp 6 (by decide) (by decide)
                    have p7 : vs 7 = _ := hp 7 (by decide) (by decide)
                    have p8 : vs 8 = _ := hp 8 (by decide) (by decide)
                    have p9 : vs 9 = _ := hp 9 (by decide) (by decide)
                    have p10 : vs 10 = _ := hp 10 (by decide) (by decide)
                    have p11 : vs 11 = _ := hp 11 (by decide) (by decide)
                    clear hp hl
                    simp only [putAll_mk, setAll, List.setIfInBounds_toArray, List.set_cons_succ, List.set_cons_zero, p0, p1, p2, p3, p4, p5, p6, p7, p8, p9, p10, p11]
                    replace hS : Ar2 w W b g cc gd cd a t X5 X5 [(pb, plO a t), (ob, opO ok ce nn)] := hS
                    have HS8 := Lib.hid hS
                    clear hS hR hS0
                    cases q with
                    | true =>
                      obtain ⟨g1, g2⟩ := HFE.out
                      simp only [Bool.true_and, if_true] at g1 g2
                      subst g1 g2
                      have hz1 := HZ0.out rfl
                      cases eb with
                      | true =>
                        go_wp2_with fail
                        go_meet
                        exact ⟨X5, Lib.hid ⟨HS8.out, HX5.out.1, HX5.out.2⟩⟩
                      | false =>
                        go_wp2_with fail
                        go_meet
                        exact ⟨X5, Lib.hid ⟨HS8.out, HX5.out.1, HX5.out.2⟩⟩
                    | false =>
                      obtain ⟨g1, g2⟩ := HFE.out
                      simp only [Bool.false_and, Bool.false_eq_true, if_false] at g1 g2
                      subst g1 g2
                      go_wp2_with fail
                      go_meet
                      exact ⟨X5, Lib.hid ⟨HS8.out, HX5.out.1, HX5.out.2⟩⟩
                | false =>
                  have hno : ¬ (0 ≤ ce ∧ ce < ((rowX a t X4).length : Nat)) := by rw [rowX_len, HI4.out.2.1]; simpa using hTH.symm
                  have HW1 := Lib.hid (bfind_no b g cc ce nn _ WB HAW.out.bk hno)
                  clear hTH hno
                  go_wp2_with fail
                  refine HW1.out.mono ?_
                  rintro e w7 ⟨rfl, rfl⟩
                  go_wp2_with fail
                  go_meet
                  exact ⟨X4, Lib.hid ⟨HAW.out, HI4.out.2.1, HI4.out.2.2⟩⟩
              have e1 : (ok == 1) = false := by simpa using k1
              clear k1
              by_cases k2 : ok = 2
              · have e2 : (ok == 2) = true := by simpa using k2
                clear k2
                have HPZ := Lib.hid (pz_tow ht16 hat nn)
                have HNEW : Hid (∀ W, Calls Try.prog 17 #[.int .i64 a, .int .i64 t, .int .i64 nn] W fun e w' => e = .returned (if towI a nn t = 0 then .tuple #[.agg #[.int .i64 0, .int .i64 0, .int .i64 0], .bool false] else .tuple #[.agg #[.int .i64 a, .int .i64 t, .int .i64 (towI a nn t)], .bool true]) ∧ Below W.heap.size W w') := Lib.hid fun W => rnew_any a t nn W (by have := (hat.up ht16).2; exact ⟨by omega, by omega⟩) HNR.out ⟨by omega, by omega⟩
                rw [HPZ.out.1] at HNEW
                obtain ⟨r, hr⟩ : ∃ r, pz a t nn = r := ⟨_, rfl⟩
                have hri := HPZ.out.2
                rw [hr] at HNEW hri
                cases th with
                | true =>
                  obtain ⟨j, hj⟩ : ∃ j : Nat, ce = (j : Int) := ⟨ce.toNat, by have := of_decide_eq_true hTH.symm; omega⟩
                  have hjk : j < k := by have := of_decide_eq_true hTH.symm; omega
                  obtain ⟨x, hx⟩ : ∃ x, X4[j]? = some x := ⟨_, List.getElem?_eq_getElem (by have := HI4.out.2.1; omega)⟩
                  have HCE := Lib.hid hj
                  have hxi := HI4.out.2.2 x (List.mem_of_getElem? hx)
                  rw [hj] at o1
                  have hp1 := HAW.out.point1 ht16 hat hx nn
                  rw [hr] at hp1
                  by_cases hr0 : r = 0
                  · simp only [hr0, if_true] at hp1
                    simp only [hr0, show (((0 : Nat) : Int) = 0) from rfl, if_true] at HNEW
                    have HP1 := Lib.hid hp1
                    clear hTH hj hx hxi hp1 hr hr0 hri
                    go_wp2_with fail
                    refine HP1.out.mono ?_
                    rintro e w7 ⟨rfl, h7⟩
                    have HA7 := Lib.hid h7
                    obtain ⟨s0, s1, s2⟩ := op_cells (h7.prk (ob, opO ok ce nn) (by simp)).1
                    obtain ⟨q0, q1⟩ := pl_cells (h7.prk (pb, plO a t) (by simp)).1
                    clear h7
                    go_wp2_with fail
                    refine (HNEW.out _).mono ?_
                    rintro e w8 ⟨rfl, hb8⟩
                    have HA8 := Lib.hid (HA7.out.below (below2 hb8 (below_alloc w8 (.cells #[.int .i64 0, .int .i64 0, .int .i64 0] RA))))
                    clear hb8
                    go_wp2_with fail
                    go_meet
                    exact ⟨X4, Lib.hid ⟨HA8.out, HI4.out.2.1, HI4.out.2.2⟩⟩
                  · simp only [if_neg hr0] at hp1
                    have hr9 : ¬ ((r : Int) = 0) := by omega
                    simp only [if_neg hr9] at HNEW
                    have HP1 := Lib.hid hp1
                    have HIN : Hid ((X4.set j r).length = k ∧ ∀ y ∈ X4.set j r, In t y) := Lib.hid ⟨by rw [List.length_set]; exact HI4.out.2.1, fun y hy => by
                      rcases List.mem_or_eq_of_mem_set hy with h | h
                      · exact HI4.out.2.2 y h
                      · rw [h]; exact hri hr0⟩
                    have hjn9 : (j : Int) < (k : Int) := by omega
                    have hjl : j < X4.length := by have := HI4.out.2.1; omega
                    have HXJ := Lib.hid (And.intro hx hjl)
                    clear hTH hj hx hxi hp1 hr hr0 hri hr9 hjl
                    go_wp2_with fail
                    refine HP1.out.mono ?_
                    rintro e w7 ⟨rfl, h7⟩
                    have HA7 := Lib.hid h7
                    obtain ⟨s0, s1, s2⟩ := op_cells (h7.prk (ob, opO ok ce nn) (by simp)).1
                    obtain ⟨q0, q1⟩ := pl_cells (h7.prk (pb, plO a t) (by simp)).1
                    clear h7
                    go_wp2_with fail
                    refine (HNEW.out _).mono ?_
                    rintro e w8 ⟨rfl, hb8⟩
                    obtain ⟨W9, hW9⟩ : ∃ W9, Hid (w8.alloc (.cells #[.int .i64 a, .int .i64 t, .int .i64 r] RA) = W9) := ⟨_, Lib.hid rfl⟩
                    obtain ⟨nb, hnb⟩ : ∃ nb, Hid (w8.heap.size = nb) := ⟨_, Lib.hid rfl⟩
                    have hb9 : Below w8.heap.size w8 W9 := by rw [← hW9.out]; exact below_alloc _ _
                    have hk9 : W9.heap[nb]? = some (.cells #[.int .i64 a, .int .i64 t, .int .i64 r] RA (0, 0)) := by rw [← hW9.out, ← hnb.out]; exact heap_alloc_new _ _
                    have HA9 := Lib.hid (HA7.out.below (below2 hb8 hb9))
                    obtain ⟨s0, s1, s2⟩ := op_cells (HA9.out.prk (ob, opO ok ce nn) (by simp)).1
                    rw [HCE.out] at s1
                    have n0 : W9.cell? ⟨nb, 0, none⟩ = some (.int .i64 a) := by rw [cell_of_row _ _ 0 _ _ _ hk9]; rfl
                    have n1 : W9.cell? ⟨nb, 1, none⟩ = some (.int .i64 t) := by rw [cell_of_row _ _ 1 _ _ _ hk9]; rfl
                    have n2 : W9.cell? ⟨nb, 2, none⟩ = some (.int .i64 r) := by rw [cell_of_row _ _ 2 _ _ _ hk9]; rfl
                    obtain ⟨m0, m1, m2, z2⟩ := HA9.out.rrD HXJ.out.1
                    obtain ⟨z0, z1⟩ : W9.frozen? ⟨gd, j * 3, none⟩ = false ∧ W9.frozen? ⟨gd, j * 3 + 1, none⟩ = false := by
                      obtain ⟨-, -, -, hle, -, hc, -⟩ := own_some HA9.out.doc
                      have : (j + 1) * 3 ≤ cd * 3 := Nat.mul_le_mul_right 3 (by have := HXJ.out.2; omega)
                      exact ⟨(hc _ (by omega)).2, (hc _ (by omega)).2⟩
                    have HLAY : Hid (Ar2 w (((W9.setCell ⟨gd, j * 3, none⟩ (.int .i64 a)).setCell ⟨gd, j * 3 + 1, none⟩ (.int .i64 t)).setCell ⟨gd, j * 3 + 2, none⟩ (.int .i64 r)) b g cc gd cd a t (X4.set j r) (X4.set j r) [(pb, plO a t), (ob, opO ok ce nn)]) := Lib.hid (HA9.out.layD HXJ.out.2 ⟨W9, Below.refl _ _, rfl⟩)
                    clear hb8 hb9 hk9
                    go_upto_region 41 with (fail)
                    rw [hW9.out, hnb.out]
                    go_wp2_with fail
                    go_meet
                    exact ⟨_, Lib.hid ⟨HLAY.out, HIN.out.1, HIN.out.2⟩⟩
                | false =>
                  have hno : ¬ (0 ≤ ce ∧ ce < ((rowX a t X4).length : Nat)) := by rw [rowX_len, HI4.out.2.1]; simpa using hTH.symm
                  have HW1 := Lib.hid (bpoint_no b g cc ce nn _ WB HAW.out.bk hno)
                  obtain ⟨y1, y2, y3, yo, HN2⟩ : ∃ (y1 y2 y3 : Int) (yo : Bool), Hid (∀ W, Calls Try.prog 17 #[.int .i64 a, .int .i64 t, .int .i64 nn] W fun e w' => e = .returned (.tuple #[.agg #[.int .i64 y1, .int .i64 y2, .int .i64 y3], .bool yo]) ∧ Below W.heap.size W w') := by
                    have h1 := HNEW.out
                    by_cases hz : (r : Int) = 0
                    · simp only [if_pos hz] at h1
                      exact ⟨_, _, _, _, Lib.hid h1⟩
                    · simp only [if_neg hz] at h1
                      exact ⟨_, _, _, _, Lib.hid h1⟩
                  clear hTH hno hr hri HNEW
                  obtain ⟨q0, q1⟩ := pl_cells (HAW.out.prk (pb, plO a t) (by simp)).1
                  go_wp2_with fail
                  refine HW1.out.mono ?_
                  rintro e w7 ⟨rfl, rfl⟩
                  go_wp2_with fail
                  refine (HN2.out _).mono ?_
                  rintro e w8 ⟨rfl, hb8⟩
                  have HA8 := Lib.hid (HAW.out.below (below2 hb8 (below_alloc w8 (.cells #[.int .i64 y1, .int .i64 y2, .int .i64 y3] RA))))
                  clear hb8 q0 q1
                  go_wp2_with fail
                  go_meet
                  exact ⟨X4, Lib.hid ⟨HA8.out, HI4.out.2.1, HI4.out.2.2⟩⟩
              · have e2 : (ok == 2) = false := by simpa using k2
                clear k2 hTH
                go_wp2_with fail
                go_meet
                exact ⟨X4, Lib.hid ⟨HAW.out, HI4.out.2.1, HI4.out.2.2⟩⟩
            case rest =>
              obtain ⟨X5, HI5⟩ := hcut
              go_wp2_with fail
              have hqk := HI5.out.2.1
              go_loopg [30] (k + 2) (fun gk v wr => ∃ cx : Int, gk = ((k : Int) + 1 - cx).toNat ∧ v = .int .i64 cx ∧ -1 ≤ cx ∧ cx ≤ k + 1 ∧ Hid (Ar2 w wr b g cc gd cd a t X5 X5 [(pb, plO a t)]))
              case atStart => exact ⟨-1, by omega, rfl, by omega, by omega, Lib.hid (HI5.out.1.sub (by simp))⟩
              case round =>
                obtain ⟨cx, rfl, rfl, hc1, hc2, HA5⟩ := hrel
                by_cases hle : cx ≤ k
                · have d1 : decide (cx ≤ (k : Int)) = true := by simpa using hle
                  by_cases hin : 0 ≤ cx ∧ cx < k
                  · obtain ⟨j, rfl⟩ : ∃ j : Nat, cx = (j : Int) := ⟨cx.toNat, by omega⟩
                    obtain ⟨x, hx⟩ : ∃ x, X5[j]? = some x := ⟨_, List.getElem?_eq_getElem (by omega)⟩
                    have hjk : j < k := by omega
                    have hjn9 : (j : Int) < (k : Int) := by omega
                    have d3 : decide ((j : Int) < (k : Int)) = true := by simpa using hjn9
                    obtain ⟨m0, m1, m2, z2⟩ := HA5.out.rrD hx
                    have HTO := Lib.hid (to_ok b g cc j _ _ wr HA5.out.bk (rowX_at hx))
                    clear hx hin
                    go_wp2_with fail
                    refine HTO.out.mono ?_
                    rintro e w7 ⟨rfl, rfl⟩
                    go_wp2_with fail
                    go_roundg ((k : Int) + 1 - ((j : Int) + 1)).toNat
                    case measure => omega
                    case rel => exact ⟨(j : Int) + 1, by omega, by go_num, by omega, by omega, HA5⟩
                  · have hno : ¬ (0 ≤ cx ∧ cx < ((rowX a t X5).length : Nat)) := by rw [rowX_len, hqk]; exact hin
                    have HTO := Lib.hid (to_no b g cc cx _ wr HA5.out.bk hno)
                    by_cases h0 : 0 ≤ cx
                    · have d2 : decide (0 ≤ cx) = true := by simpa using h0
                      have d3 : decide (cx < (k : Int)) = false := by simp; omega
                      clear hno hin
                      go_wp2_with fail
                      refine HTO.out.mono ?_
                      rintro e w7 ⟨rfl, rfl⟩
                      go_wp2_with fail
                      go_roundg ((k : Int) + 1 - (cx + 1)).toNat
                      case measure => omega
                      case rel => exact ⟨cx + 1, by omega, by go_num, by omega, by omega, HA5⟩
                    · have d2 : decide (0 ≤ cx) = false := by simpa using h0
                      clear hno hin
                      go_wp2_with fail
                      refine HTO.out.mono ?_
                      rintro e w7 ⟨rfl, rfl⟩
                      go_wp2_with fail
                      go_roundg ((k : Int) + 1 - (cx + 1)).toNat
                      case measure => omega
                      case rel => exact ⟨cx + 1, by omega, by go_num, by omega, by omega, HA5⟩
                · have d1 : decide (cx ≤ (k : Int)) = false := by simpa using hle
                  go_wp2_with fail
                  go_roundw
                  case rel => exact ⟨kk + 1, X5, by omega, by go_num, Lib.hid ⟨HA5.out, HI5.out.2⟩⟩
                  case measure => simp [intOf]; omega
          · obtain rfl : kk = m := by omega
            go_wp2_with fail
            go_ret
            exact ⟨rfl, HI4.out.1.bel⟩
end Go.Proofs.Ytmddcmfleipjjaa.Ar

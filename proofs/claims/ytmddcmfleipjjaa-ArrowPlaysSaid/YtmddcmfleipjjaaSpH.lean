/- Steps. -/
import Derived.Test.YtmddcmfleipjjaaSpG
namespace Go.Proofs.Ytmddcmfleipjjaa.Sp
open Go.RowKit Go.Proofs.Ytmddcmfleipjjaa.L Go.Proofs.Ytmddcmfleipjjaa.A Go.Proofs.Ytmddcmfleipjjaa.R Go.Proofs.Ytmddcmfleipjjaa.T Go.Proofs.Ytmddcmfleipjjaa.F Go.Proofs.Ytmddcmfleipjjaa.S
set_option linter.unusedVariables false
set_option linter.unusedSimpArgs false

def st1 (t : Int) (k a : Nat) (d : List Int) (b : Nat) : List Int :=
  if d.getD (a + 1) 0 == (k : Int) && decide (d.getD (b + 1) 0 < 0) && edgeB ((a : Int) + 1) ((b : Int) + 1) t then d.set (b + 1) ((k : Int) + 1) else d
def st2 (t : Int) (n k : Nat) (d : List Int) (a : Nat) : List Int := (List.range n).foldl (st1 t k a) d
def st3 (t : Int) (n : Nat) (d : List Int) (k : Nat) : List Int := (List.range n).foldl (st2 t n k) d
def stepsL (f t : Int) : List Int :=
  if 1 ≤ f ∧ f ≤ t ∧ t ≤ 16 then (List.range t.toNat).foldl (st3 t t.toNat) ((List.replicate 17 (-1)).set f.toNat 0) else List.replicate 17 (-1)
theorem st1_len (t : Int) (k a b : Nat) (d : List Int) : (st1 t k a d b).length = d.length := by unfold st1; split <;> simp
theorem foldl_len {α : Type} (g : List Int → α → List Int) (h : ∀ d x, (g d x).length = d.length) : ∀ (l : List α) (d : List Int), (l.foldl g d).length = d.length
  | [], d => rfl
  | x :: l, d => by rw [List.foldl_cons, foldl_len g h l, h]
theorem st2_len (t : Int) (n k a : Nat) (d : List Int) : (st2 t n k d a).length = d.length := foldl_len _ (fun d b => st1_len t k a b d) _ _
theorem st3_len (t : Int) (n k : Nat) (d : List Int) : (st3 t n d k).length = d.length := foldl_len _ (fun d a => st2_len t n k a d) _ _
theorem foldl_succ (g : List Int → Nat → List Int) (d : List Int) (k : Nat) : (List.range (k + 1)).foldl g d = g ((List.range k).foldl g d) k := by rw [List.range_succ, List.foldl_append]; rfl
def stX (t : Int) (k a b : Nat) (d : List Int) : List Int := if d.getD a 0 == (k : Int) && decide (d.getD b 0 < 0) && edgeB (a : Int) (b : Int) t then d.set b ((k : Int) + 1) else d
theorem st1_eq (t : Int) (k a b : Nat) (d : List Int) (ha : 1 ≤ a) (hb : 1 ≤ b) : st1 t k (a - 1) d (b - 1) = stX t k a b d := by
  unfold st1 stX
  have e1 : a - 1 + 1 = a := by omega
  have e2 : b - 1 + 1 = b := by omega
  have e3 : ((a - 1 : Nat) : Int) + 1 = (a : Int) := by omega
  have e4 : ((b - 1 : Nat) : Int) + 1 = (b : Int) := by omega
  rw [e1, e2, e3, e4]
theorem fold_step {g : List Int → Nat → List Int} {d0 : List Int} {a : Nat} (ha : 1 ≤ a) : (List.range a).foldl g d0 = g ((List.range (a - 1)).foldl g d0) (a - 1) := by
  have := foldl_succ g d0 (a - 1)
  rw [show a - 1 + 1 = a by omega] at this
  exact this
/-- a row of seventeen. -/
def Row17 (w : World) (B g c : Nat) (d : List Int) : Prop := w.ownsRow B 3 1 (.slice (some ⟨g, 0, none⟩) 17 c) 17 (ints d)
theorem Row17.cell {w : World} {B g c : Nat} {d : List Int} (h : Row17 w B g c d) (j : Nat) (hj : j < 17) : w.cell? ⟨g, j, none⟩ = some (.int .i64 (d.getD j 0)) := by
  have h1 := World.ownsRow.cellAt h j (by omega)
  have hl : d.length = 17 := by have := h.1; simpa [ints] using this
  rw [h1, ints, List.getElem?_map, List.getElem?_eq_getElem (by omega)]
  simp [hl, hj]
theorem Row17.len {w : World} {B g c : Nat} {d : List Int} (h : Row17 w B g c d) : d.length = 17 := by have := h.1; simpa [ints] using this
theorem Row17.set {w : World} {B g c : Nat} {d : List Int} (h : Row17 w B g c d) (j : Nat) (x : Int) : Row17 (w.setCell ⟨g, j, none⟩ (.int .i64 x)) B g c (d.set j x) := by
  have := (World.ownsRow.stored h j (.int .i64 x)).1
  unfold Row17
  rw [ints, List.map_set]
  exact this
set_option maxHeartbeats 8000000 in
set_option maxRecDepth 100000 in
theorem steps_any (f t : Int) (w : World) (hf : -9223372036854775808 ≤ f ∧ f ≤ 9223372036854775807) (ht : -9223372036854775808 ≤ t ∧ t ≤ 9223372036854775807) :
    Calls Try.prog 33 #[.int .i64 f, .int .i64 t] w (Gives w (stepsL f t)) := by
  obtain ⟨S, hS⟩ : ∃ S, Hid (stepsL f t = S) := ⟨_, Lib.hid rfl⟩
  have hS2 := Lib.hid hS.out
  unfold stepsL at hS2
  rw [hS.out]
  go_enter Try.func33, Try.ntmps33
  go_wp2_with fail
  go_loopg [5, 6] 17 (fun gk v i wr => ∃ k : Nat, gk = 17 - k ∧ k ≤ 17 ∧ i = .int .i64 k ∧ wr.ownsRow w.heap.size 3 1 v k (ints (List.replicate k (-1))) ∧ Below w.heap.size w wr ∧ Hid (∃ g c, v = .slice (some ⟨g, 0, none⟩) k c))
  case atStart => exact ⟨0, by omega, by omega, rfl, World.ownsRow_lit (size := 1) w #[] 0 (Nat.le_refl _) (by decide) rfl, below_alloc _ _, Lib.hid ⟨_, _, rfl⟩⟩
  case round =>
    obtain ⟨k, rfl, hk, rfl, ho, hb, hv⟩ := hrel
    by_cases hlt : k < 17
    · have hbs : w.heap.size ≤ (wr.alloc (.cells #[.int .i64 (-1)] 3)).heap.size := by have := hb.size; simp; omega
      have HO := Lib.hid ho
      have HB := Lib.hid hb
      clear hb
      go_wp2_with (at_builtin; refine wpList_append_src _ rfl (.tmp 15) (.tmp 16) w.heap.size 47 3 (.int .i64 0) 1 8 rfl (by kernel_rfl) (by kernel_rfl) rfl (by decide) (by decide) _ k _ rfl (ho.alloc _) (some ⟨wr.heap.size, 0, none⟩) 1 1 rfl (fun h => by cases h) [.int .i64 (-1)] rfl (lies_block (heap_alloc_new _ _)) (by simp [Value.oneCell']) (by omega) hbs ?_; intro v1 w4 ho1 hg1 hv1)
      have hb4 : Below w.heap.size w w4 := HB.out.trans (below_app HO.out HB.out.size hg1)
      have hts : ints (List.replicate k (-1)) ++ [.int .i64 (-1)] = ints (List.replicate (k + 1) (-1)) := by rw [List.replicate_succ']; simp [ints]
      rw [hts] at ho1
      have hv4 : ∃ g c, v1 = .slice (some ⟨g, 0, none⟩) (k + 1) c := by
        rcases ho1.2 with ⟨_, e⟩ | ⟨g, cap, cur, e, _⟩
        · simp [ints, List.replicate_succ] at e
        · exact ⟨g, cap, e⟩
      go_roundg (17 - (k + 1))
      case measure => omega
      case rel => exact ⟨k + 1, rfl, by omega, by go_num, ho1, hb4, Lib.hid hv4⟩
    · have hke : k = 17 := by omega
      subst hke
      obtain ⟨g, c, rfl⟩ := hv.out
      have hcap := own_cap ho
      have HB := Lib.hid hb
      by_cases hin : 1 ≤ f ∧ f ≤ t ∧ t ≤ 16
      · have hS3 : Hid ((List.range t.toNat).foldl (st3 t t.toNat) ((List.replicate 17 (-1)).set f.toNat 0) = S) := Lib.hid (by rw [← hS2.out, if_pos hin])
        obtain ⟨fn, rfl⟩ : ∃ fn : Nat, f = (fn : Int) := ⟨f.toNat, by omega⟩
        obtain ⟨n, rfl⟩ : ∃ n : Nat, t = (n : Int) := ⟨t.toNat, by omega⟩
        rw [Int.toNat_natCast, Int.toNat_natCast] at hS3
        have h0 : Row17 wr w.heap.size g c (List.replicate 17 (-1)) := ho
        have c0 := h0.cell fn (by omega)
        have f0 := World.ownsRow.frozenAt ho fn
        have hg := ho.lt g rfl
        have H1 := Lib.hid (h0.set fn 0)
        have hB1 := Lib.hid ((HB.out).setCell (p := ⟨g, fn, none⟩) hg.1 (.int .i64 0))
        have e1 : decide ((fn : Int) < 1) = false := by simp; omega
        have e2 : decide ((n : Int) < (fn : Int)) = false := by simp; omega
        have e2' : decide (n < fn) = false := by simp; omega
        have e3' : decide (16 < n) = false := by simp; omega
        have e3 : decide ((16 : Int) < (n : Int)) = false := by simp; omega
        obtain ⟨d0, hd0⟩ : ∃ d0, Hid ((List.replicate 17 (-1 : Int)).set fn 0 = d0) := ⟨_, Lib.hid rfl⟩
        rw [hd0.out] at H1 hS3
        clear ho h0 hb hk hlt
        go_wp2_with fail
        go_loopg [7] n (fun gk i wx => ∃ (k : Nat) (d : List Int), gk = n - k ∧ k ≤ n ∧ i = .int .i64 k ∧ Row17 wx w.heap.size g c d ∧ Below w.heap.size w wx ∧ Hid ((List.range k).foldl (st3 n n) d0 = d))
        case atStart => exact ⟨0, d0, by omega, by omega, rfl, H1.out, hB1.out, Lib.hid rfl⟩
        case round =>
          obtain ⟨k, d, rfl, hk, rfl, hr, hb, hd⟩ := hrel
          by_cases hkn : k < n
          · have hR := Lib.hid hr
            have hB := Lib.hid hb
            have hk3 : Hid ((List.range (k + 1)).foldl (st3 n n) d0 = st3 n n d k) := Lib.hid (by rw [foldl_succ, hd.out])
            have dk : decide ((k : Int) < (n : Int)) = true := by simp; omega
            have dk2 : decide (k < n) = true := by simp; omega
            clear hr hb
            go_wp2_with fail
            clear dk dk2
            go_loopg [8] n (fun gk i wx => ∃ (a : Nat) (e : List Int), gk = n + 1 - a ∧ 1 ≤ a ∧ a ≤ n + 1 ∧ i = .int .i64 a ∧ Row17 wx w.heap.size g c e ∧ Below w.heap.size w wx ∧ Hid ((List.range (a - 1)).foldl (st2 n n k) d = e))
            case atStart => exact ⟨1, d, by omega, by omega, by omega, rfl, hR.out, hB.out, Lib.hid rfl⟩
            case round =>
              obtain ⟨a, e, rfl, ha1, han, rfl, hr, hb, he⟩ := hrel
              by_cases hal : a ≤ n
              · have hR2 := Lib.hid hr
                have hB2 := Lib.hid hb
                have ha3 : Hid ((List.range a).foldl (st2 n n k) d = st2 n n k e (a - 1)) := Lib.hid (by rw [fold_step ha1, he.out])
                have da : decide ((a : Int) ≤ (n : Int)) = true := by simp; omega
                have da2 : decide (a ≤ n) = true := by simp; omega
                clear hr hb
                go_wp2_with fail
                clear da da2
                go_loopg [9] n (fun gk i wx => ∃ (b : Nat) (u : List Int), gk = n + 1 - b ∧ 1 ≤ b ∧ b ≤ n + 1 ∧ i = .int .i64 b ∧ Row17 wx w.heap.size g c u ∧ Below w.heap.size w wx ∧ Hid ((List.range (b - 1)).foldl (st1 n k (a - 1)) e = u))
                case atStart => exact ⟨1, e, by omega, by omega, by omega, rfl, hR2.out, hB2.out, Lib.hid rfl⟩
                case round =>
                  obtain ⟨b, u, rfl, hb1, hbn, rfl, hr, hb, hu⟩ := hrel
                  by_cases hbl : b ≤ n
                  · have hb3 : Hid ((List.range b).foldl (st1 n k (a - 1)) e = stX n k a b u) := Lib.hid (by rw [fold_step hb1, hu.out, st1_eq _ _ _ _ _ ha1 hb1])
                    have ca := hr.cell a (by omega)
                    have cb := hr.cell b (by omega)
                    have fb := World.ownsRow.frozenAt hr b
                    obtain ⟨x, hx⟩ : ∃ x, Hid (u.getD a 0 = x) := ⟨_, Lib.hid rfl⟩
                    obtain ⟨y, hy⟩ : ∃ y, Hid (u.getD b 0 = y) := ⟨_, Lib.hid rfl⟩
                    obtain ⟨E, hE⟩ : ∃ E, Hid (edgeB (a : Int) (b : Int) n = E) := ⟨_, Lib.hid rfl⟩
                    have hst := Lib.hid (show stX n k a b u = if x == (k : Int) && decide (y < 0) && E then u.set b ((k : Int) + 1) else u by unfold stX; rw [hx.out, hy.out, hE.out])
                    rw [hx.out] at ca
                    rw [hy.out] at cb
                    have hR3 := Lib.hid hr
                    have hB3 := Lib.hid hb
                    have hset := Lib.hid (hr.set b ((k : Int) + 1))
                    have hbset := Lib.hid (hb.setCell (p := ⟨g, b, none⟩) hg.1 (.int .i64 ((k : Int) + 1)))
                    clear hr hb
                    by_cases hxk : x = (k : Int)
                    · have ex : (x == (k : Int)) = true := by simpa using hxk
                      by_cases hy0 : y < 0
                      · have ey : decide (y < 0) = true := by simpa using hy0
                        cases E
                        · have hfin : Hid (stX n k a b u = u) := Lib.hid (by rw [hst.out]; simp)
                          clear hxk hst
                          go_wp2_with fail
                          refine (edge_any a b n _ (by omega) (by omega) false hE.out).mono ?_
                          rintro e' w5 ⟨rfl, rfl⟩
                          go_wp2
                          go_roundg (n + 1 - (b + 1))
                          case measure => omega
                          case rel => exact ⟨b + 1, u, rfl, by omega, by omega, by go_num, hR3.out, hB3.out, Lib.hid (by rw [show b + 1 - 1 = b by omega, hb3.out, hfin.out])⟩
                        · have hfin : Hid (stX n k a b u = u.set b ((k : Int) + 1)) := Lib.hid (by rw [hst.out, ex, ey]; simp)
                          clear hxk hst
                          go_wp2_with fail
                          refine (edge_any a b n _ (by omega) (by omega) true hE.out).mono ?_
                          rintro e' w5 ⟨rfl, rfl⟩
                          go_wp2
                          go_roundg (n + 1 - (b + 1))
                          case measure => omega
                          case rel => exact ⟨b + 1, _, rfl, by omega, by omega, by go_num, hset.out, hbset.out, Lib.hid (by rw [show b + 1 - 1 = b by omega, hb3.out, hfin.out])⟩
                      · have ey : decide (y < 0) = false := by simpa using hy0
                        have hfin : Hid (stX n k a b u = u) := Lib.hid (by rw [hst.out, ey]; simp)
                        clear hxk hst
                        go_wp2
                        go_roundg (n + 1 - (b + 1))
                        case measure => omega
                        case rel => exact ⟨b + 1, u, rfl, by omega, by omega, by go_num, hR3.out, hB3.out, Lib.hid (by rw [show b + 1 - 1 = b by omega, hb3.out, hfin.out])⟩
                    · have ex : (x == (k : Int)) = false := by simpa using hxk
                      have hfin : Hid (stX n k a b u = u) := Lib.hid (by rw [hst.out, ex]; simp)
                      clear hxk hst
                      go_wp2
                      go_roundg (n + 1 - (b + 1))
                      case measure => omega
                      case rel => exact ⟨b + 1, u, rfl, by omega, by omega, by go_num, hR3.out, hB3.out, Lib.hid (by rw [show b + 1 - 1 = b by omega, hb3.out, hfin.out])⟩
                  · have hbe : b - 1 = n := by omega
                    have hfin : Hid (st2 n n k e (a - 1) = u) := Lib.hid (by rw [← hu.out, hbe]; rfl)
                    have hR3 := Lib.hid hr
                    have hB3 := Lib.hid hb
                    clear hr hb hbn hbe
                    go_wp2
                    go_roundg (n + 1 - (a + 1))
                    case measure => omega
                    case rel => exact ⟨a + 1, u, rfl, by omega, by omega, by go_num, hR3.out, hB3.out, Lib.hid (by rw [show a + 1 - 1 = a by omega, ha3.out, hfin.out])⟩
              · have hae : a - 1 = n := by omega
                have hfin : Hid (st3 n n d k = e) := Lib.hid (by rw [← he.out, hae]; rfl)
                have hR3 := Lib.hid hr
                have hB3 := Lib.hid hb
                clear hr hb han hae
                go_wp2
                go_roundg (n - (k + 1))
                case measure => omega
                case rel => exact ⟨k + 1, e, rfl, by omega, by go_num, hR3.out, hB3.out, Lib.hid (by rw [hk3.out, hfin.out])⟩
          · have hke : k = n := by omega
            subst hke
            have hfin : Hid (d = S) := Lib.hid (by rw [← hd.out, hS3.out])
            have hR3 := Lib.hid hr
            have hl := Lib.hid hr.len
            clear hr hk
            go_wp2
            go_ret
            exact ⟨_, rfl, by rw [← hfin.out, hl.out]; exact hR3.out, hb⟩
      · have hS3 : Hid (List.replicate 17 (-1) = S) := Lib.hid (by rw [← hS2.out, if_neg hin])
        have HO := Lib.hid ho
        clear ho hb hk hlt
        have hfin : Hid (S.length = 17) := Lib.hid (by rw [← hS3.out]; simp)
        by_cases g1 : f < 1
        · have e1 : decide (f < 1) = true := by simpa using g1
          go_wp2
          go_ret
          exact ⟨_, rfl, by rw [hfin.out, ← hS3.out]; exact HO.out, HB.out⟩
        · have e1 : decide (f < 1) = false := by simpa using g1
          by_cases g2 : t < f
          · have e2 : decide (t < f) = true := by simpa using g2
            go_wp2
            go_ret
            exact ⟨_, rfl, by rw [hfin.out, ← hS3.out]; exact HO.out, HB.out⟩
          · have e2 : decide (t < f) = false := by simpa using g2
            have e3 : decide ((16 : Int) < t) = true := by simp; omega
            go_wp2
            go_ret
            exact ⟨_, rfl, by rw [hfin.out, ← hS3.out]; exact HO.out, HB.out⟩
end Go.Proofs.Ytmddcmfleipjjaa.Sp

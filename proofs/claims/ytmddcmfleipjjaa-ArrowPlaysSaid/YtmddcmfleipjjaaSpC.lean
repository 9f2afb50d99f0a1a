/- Path, Toward, Depth. -/
import Derived.Test.YtmddcmfleipjjaaSpB
namespace Go.Proofs.Ytmddcmfleipjjaa.Sp
open Go.RowKit Go.Proofs.Ytmddcmfleipjjaa.L Go.Proofs.Ytmddcmfleipjjaa.A Go.Proofs.Ytmddcmfleipjjaa.R Go.Proofs.Ytmddcmfleipjjaa.T Go.Proofs.Ytmddcmfleipjjaa.F Go.Proofs.Ytmddcmfleipjjaa.S
set_option linter.unusedVariables false
set_option linter.unusedSimpArgs false

theorem reverse_own (B : Nat) (v : Value) (l : List Int) (w : World) (ho : w.ownsRow B 3 1 v l.length (ints l)) (hn : l.length ≤ 100) :
    Calls Try.prog 39 #[v] w fun e w' => e = .returned (.tuple #[]) ∧ w'.ownsRow B 3 1 v l.length (ints l.reverse) ∧ Below B w w' := by
  rcases ho.2 with ⟨rfl, e⟩ | ⟨g, cap, cur, rfl, hb, _⟩
  · have hl : l = [] := by cases l with
      | nil => rfl
      | cons x l => simp [ints] at e
    subst hl
    clear ho e hn
    go_enter Try.func39, Try.ntmps39
    go_wp2
    refine wp_loop_rounds 1 ?_
    rw [rounds_succ]
    go_wp2
    go_end0
    exact ⟨rfl, World.ownsRow_nil _ _ _ _, Below.refl _ _⟩
  · refine (reverse_any g l.length cap B l w ho hn).mono ?_
    rintro e w' ⟨he, ho', hk⟩
    have hg := (ho.lt g rfl)
    exact ⟨he, ho', hk.below (by omega) (by simpa using hg.1)⟩
def pathGo (down : List Int) : List Int → List Int → List Int
  | _, [] => []
  | acc, n :: ns => if 0 ≤ idx (fun y => n == y) down then acc ++ [n] ++ (down.take (idx (fun y => n == y) down).toNat).reverse else pathGo down (acc ++ [n]) ns
def pathL (a b t : Int) : List Int := if hasB t [a, b] then pathGo (upI b) [] (upI a) else []
theorem idx_lt {α : Type} (p : α → Bool) : ∀ l : List α, idx p l < l.length
  | [] => by simp [idx]
  | x :: xs => by
    have := idx_lt p xs
    simp only [idx, List.length_cons]
    split
    · omega
    · split <;> omega
theorem has_rng {t a b : Int} (h : hasB t [a, b] = true) : 1 ≤ a ∧ a ≤ t ∧ 1 ≤ b ∧ b ≤ t ∧ t ≤ 16 := by
  simp [hasB, offB] at h
  omega
theorem below_app {B : Nat} {w5 w6 : World} {e : TypeId} {size n : Nat} {v : Value} {xs : List Value} {o : Obj} (ho : w5.ownsRow B e size v n xs) (hB : B ≤ w5.heap.size) (hg : (w5.alloc o).grownBy w6 v.ownBlock) : Below B w5 w6 :=
  ((Below.refl B w5).alloc hB o).trans (below_of_grown hg (by simp; omega) fun k hk => (ho.lt k hk).1)
theorem rd_take {w : World} {A : Option Addr} {n : Nat} {xs : List Value} (h : Rd w A n xs) (k : Nat) (hk : k ≤ n) : Rd w A k (xs.take k) := by
  refine ⟨by rw [List.length_take, h.1]; omega, by have := h.2.1; omega, fun h0 => ?_⟩
  obtain ⟨b, o, hA, hc⟩ := h.2.2 (by omega)
  exact ⟨b, o, hA, fun j hj => by rw [hc j (by omega), List.getElem?_take_of_lt hj]⟩
set_option maxHeartbeats 4000000 in
set_option maxRecDepth 100000 in
theorem path_any (a b t : Int) (w : World) : Calls Try.prog 34 #[.int .i64 a, .int .i64 b, .int .i64 t] w (Gives w (pathL a b t)) := by
  have hr0 : Rd (w.alloc (.cells #[.int .i64 a, .int .i64 b] 3)) (some ⟨w.heap.size, 0, none⟩) 2 ([a, b].map (Value.int .i64)) := rd_block (xs := [.int .i64 a, .int .i64 b]) (heap_alloc_new _ _) rfl (by omega)
  obtain ⟨P, hP⟩ : ∃ P, Hid (pathL a b t = P) := ⟨_, Lib.hid rfl⟩
  rw [hP.out]
  cases hh : hasB t [a, b] with
  | false =>
    have hPn : Hid (P = []) := Lib.hid (by rw [← hP.out]; simp [pathL, hh])
    have HC := Lib.hid (has_any t _ 2 2 [a, b] _ hr0 false hh)
    clear hh hr0
    go_enter Try.func34, Try.ntmps34
    go_wp2_with fail
    refine HC.out.mono ?_
    rintro e w1 ⟨rfl, hb1⟩
    go_wp2
    go_ret
    exact ⟨_, rfl, by rw [hPn.out]; exact World.ownsRow_nil _ _ _ _, below2 (below_alloc _ _) hb1⟩
  | true =>
    have hrng := has_rng hh
    have hPn : Hid (P = pathGo (upI b) [] (upI a)) := Lib.hid (by rw [← hP.out]; simp [pathL, hh])
    have HC := Lib.hid (has_any t _ 2 2 [a, b] _ hr0 true hh)
    have hda := upI_len 5 a (by omega)
    have hdb := upI_len 5 b (by omega)
    obtain ⟨U, hU⟩ : ∃ U, Hid (upI a = U) := ⟨_, Lib.hid rfl⟩
    obtain ⟨D, hD⟩ : ∃ D, Hid (upI b = D) := ⟨_, Lib.hid rfl⟩
    rw [hU.out, hD.out] at hPn
    rw [hU.out] at hda
    rw [hD.out] at hdb
    obtain ⟨u, hu⟩ : ∃ u, Hid (U.length = u) := ⟨_, Lib.hid rfl⟩
    obtain ⟨d, hd⟩ : ∃ d, Hid (D.length = d) := ⟨_, Lib.hid rfl⟩
    rw [hu.out] at hda
    rw [hd.out] at hdb
    clear hh hr0
    go_enter Try.func34, Try.ntmps34
    go_wp2_with fail
    refine HC.out.mono ?_
    rintro e w1 ⟨rfl, hb1⟩
    have HB1 := Lib.hid (below2 (below_alloc w (.cells #[.int .i64 a, .int .i64 b] 3)) hb1)
    clear hb1 HC
    go_wp2_with fail
    refine (up_any b w1 (by omega)).mono ?_
    intro e w2 hG2
    obtain ⟨A2, c2, rfl, r2, n2, hc2, hb2⟩ := hG2.rd
    clear hG2
    rw [hD.out, hd.out] at r2 n2 hc2 ⊢
    have R2 := Lib.hid r2
    have N2 := Lib.hid n2
    have HB2 := Lib.hid (below2 HB1.out hb2)
    clear r2 n2 hb2
    go_wp2_with fail
    refine (up_any a w2 (by omega)).mono ?_
    intro e w3 hG3
    obtain ⟨A3, c3, rfl, r3, n3, _, hb3⟩ := hG3.rd
    clear hG3
    rw [hU.out, hu.out] at r3 n3 ⊢
    have R3 := Lib.hid r3
    have R2' := Lib.hid (R2.out.below hb3)
    have HB3 := Lib.hid (below2 HB2.out hb3)
    clear r3 n3 hb3 HB1 HB2
    go_wp2_with fail
    go_loopw [8, 24] (fun v i wr => ∃ (k : Nat), k ≤ u ∧ i = .int .i64 k ∧ wr.ownsRow w3.heap.size 3 1 v k (ints (U.take k)) ∧ Below w3.heap.size w3 wr ∧ Hid (pathGo D (U.take k) (U.drop k) = P)) (fun _ i _ => u - (intOf i).toNat)
    case atStart => exact ⟨0, by omega, rfl, World.ownsRow_nil _ _ _ _, Below.refl _ _, Lib.hid (by rw [hPn.out]; rfl)⟩
    case round =>
      obtain ⟨k, hk, rfl, ho, hb, hG⟩ := hrel
      by_cases hlt : k < u
      · have hkU : k < U.length := by rw [hu.out]; exact hlt
        obtain ⟨ab, ao, hA, hc⟩ := (R3.out.below hb).2.2 (by omega)
        subst hA
        obtain ⟨x, hx⟩ : ∃ x, Hid (U[k] = x) := ⟨_, Lib.hid rfl⟩
        have hcell := hc k hlt
        rw [ints, List.getElem?_map, List.getElem?_eq_getElem hkU, hx.out] at hcell
        simp only [Option.map_some] at hcell
        have hbs : w3.heap.size ≤ (wr.alloc (.cells #[.int .i64 x] 3)).heap.size := by have := hb.size; simp; omega
        have hstep := hG.out
        rw [List.drop_eq_getElem_cons hkU, pathGo, hx.out, ← hx.out, ← List.take_succ_eq_append_getElem hkU, hx.out] at hstep
        obtain ⟨at_, hat⟩ : ∃ q, Hid (idx (fun y => x == y) D = q) := ⟨_, Lib.hid rfl⟩
        rw [hat.out] at hstep
        have hatlt : at_ < (d : Int) := by rw [← hat.out, ← hd.out]; exact idx_lt _ _
        have HS := Lib.hid hstep
        have HO := Lib.hid ho
        have HB := Lib.hid hb
        clear hc hstep hb
        go_wp2_with (at_builtin; refine wpList_append_src _ rfl (.tmp 28) (.tmp 30) w3.heap.size 47 3 (.int .i64 0) 1 8 rfl (by kernel_rfl) (by kernel_rfl) rfl (by decide) (by decide) _ k _ rfl (ho.alloc _) (some ⟨wr.heap.size, 0, none⟩) 1 1 rfl (fun h => by cases h) [.int .i64 x] rfl (lies_block (heap_alloc_new _ _)) (by simp [Value.oneCell']) (by omega) hbs ?_; intro v1 w4 ho1 hg1 hv1)
        have hb4 : Below w3.heap.size w3 w4 := HB.out.trans (below_app HO.out HB.out.size hg1)
        have hts : Hid (ints (U.take k) ++ [.int .i64 x] = ints (U.take (k + 1))) := Lib.hid (by rw [List.take_succ_eq_append_getElem hkU, hx.out]; simp [ints])
        rw [hts.out] at ho1
        have HO1 := Lib.hid ho1
        have HB4 := Lib.hid hb4
        clear ho1 hg1 hv1 hb4 ho hcell
        refine (index_any A2 d c2 D x w4 (R2'.out.below HB4.out) at_ hat.out).mono ?_
        rintro e w5 ⟨rfl, rfl⟩
        by_cases h0 : 0 ≤ at_
        · obtain ⟨q, rfl⟩ : ∃ q : Nat, at_ = (q : Int) := ⟨at_.toNat, by omega⟩
          have hPq : Hid (U.take (k + 1) ++ (D.take q).reverse = P) := Lib.hid (by
            have h1 := HS.out
            rw [if_pos h0, Int.toNat_natCast] at h1
            rw [← h1, List.take_succ_eq_append_getElem hkU, hx.out])
          have hqd : q < d := by omega
          have hql : Hid ((D.take q).length = q) := Lib.hid (by rw [List.length_take, hd.out]; omega)
          have hA2 : Hid (A2 = none → q = 0 ∧ c2 = 0) := Lib.hid fun h => by have := N2.out h; omega
          have rq : Hid (Rd w4 A2 q (ints (D.take q))) := Lib.hid (by have := rd_take (R2'.out.below HB4.out) q (by omega); simpa [ints, List.map_take] using this)
          obtain ⟨eb, eo, hAe, _⟩ := R2.out.2.2 (by omega)
          subst hAe
          clear HS h0 hatlt
          go_wp2_with fail
          refine (clone_any (some ⟨eb, eo, none⟩) q c2 (D.take q) w4 rq.out hA2.out (by omega)).mono ?_
          rintro e w5 ⟨v5, rfl, ho5, hb5⟩
          have HO5 := Lib.hid ho5
          have HB5 := Lib.hid hb5
          clear ho5 hb5
          go_wp2_with fail
          refine (reverse_own w4.heap.size v5 (D.take q) w5 HO5.out (by rw [hql.out]; omega)).mono ?_
          rintro e w6 ⟨rfl, ho6, hb6⟩
          rw [hql.out] at ho6
          obtain ⟨A6, c6, rfl, r6, n6⟩ := own_rd ho6
          have hb46 : Below w4.heap.size w4 w6 := HB5.out.trans hb6
          have ho7 := own_kept HO1.out hb46
          have hs7 : w3.heap.size ≤ w6.heap.size := Nat.le_trans HB4.out.size hb46.size
          have N6 := Lib.hid n6
          have R6 := Lib.hid (Rd.lies r6)
          have H7 := Lib.hid ho7
          have HB46 := Lib.hid hb46
          clear n6 r6 hb46 hb6 ho6 HO5 HB5 ho7
          go_wp2_with (at_builtin; refine wpList_append_src _ rfl (.tmp 43) (.tmp 44) w3.heap.size 47 3 (.int .i64 0) 1 8 rfl (by kernel_rfl) (by kernel_rfl) rfl (by decide) (by decide) _ (k + 1) _ rfl H7.out A6 q c6 rfl N6.out (ints (D.take q).reverse) (by have := hql.out; simp [ints] at this ⊢; exact this) R6.out (ints_one _) (by omega) hs7 ?_; intro v8 w8 ho8 hg8 hv8)
          go_ret
          have hfin : ints (U.take (k + 1)) ++ ints (D.take q).reverse = ints P := by rw [← hPq.out]; simp [ints]
          have hPl : P.length = k + 1 + q := by rw [← hPq.out, List.length_append, List.length_reverse, hql.out, List.length_take, hu.out]; omega
          rw [hfin] at ho8
          refine ⟨_, rfl, by rw [hPl]; exact own_base ho8 HB3.out.size, ?_⟩
          have hb8 : Below w3.heap.size w6 w8 := below_of_grown hg8 hs7 fun j hj => (H7.out.lt j hj).1
          exact HB3.out.trans (((HB4.out.trans (HB46.out.mono HB4.out.size)).trans hb8).mono HB3.out.size)
        · have hPq : Hid (pathGo D (U.take (k + 1)) (U.drop (k + 1)) = P) := Lib.hid (by have h1 := HS.out; rw [if_neg h0] at h1; exact h1)
          clear HS
          go_wp2
          go_roundw
          case rel => exact ⟨k + 1, by omega, by go_num, HO1.out, HB4.out, hPq⟩
          case measure => simp [intOf]; omega
      · have hke : k = u := by omega
        subst hke
        have hres : Hid (P = []) := Lib.hid (by rw [← hG.out, List.drop_eq_nil_of_le (by rw [hu.out]; exact Nat.le_refl _)]; rfl)
        clear hlt hk
        go_wp2
        go_ret
        exact ⟨_, rfl, by rw [hres.out]; exact World.ownsRow_nil _ _ _ _, HB3.out.trans (hb.mono HB3.out.size)⟩
end Go.Proofs.Ytmddcmfleipjjaa.Sp

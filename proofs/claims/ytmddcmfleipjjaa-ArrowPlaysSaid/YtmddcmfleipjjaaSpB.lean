/- Clone, Reverse. -/
import Derived.Test.YtmddcmfleipjjaaSpA
import Derived.Deep.LoopGhost
import Derived.BigRegion
import Derived.Lib.LazyBuf
namespace Go.Proofs.Ytmddcmfleipjjaa.Sp
open Go.RowKit Go.Proofs.Ytmddcmfleipjjaa.L Go.Proofs.Ytmddcmfleipjjaa.A Go.Proofs.Ytmddcmfleipjjaa.R Go.Proofs.Ytmddcmfleipjjaa.T Go.Proofs.Ytmddcmfleipjjaa.F
set_option linter.unusedVariables false
set_option linter.unusedSimpArgs false

theorem own_cap {w : World} {B : Nat} {e : TypeId} {n c : Nat} {A : Option Addr} {xs : List Value} (h : w.ownsRow B e 1 (.slice A n c) n xs) : n ≤ c ∧ c ≤ 9223372036854775807 := by
  rcases h.2 with ⟨h1, h2⟩ | ⟨g, cap, cur, h1, hb, hg, hn, hm, hs, ht⟩
  · injection h1 with _ e1 e2
    omega
  · injection h1 with _ e1 e2
    simp only [maxLen] at hm
    omega
theorem Gives.rd {w w' : World} {l : List Int} {e : Ending} (h : Gives w l e w') : ∃ A c, e = .returned (.slice A l.length c) ∧ Rd w' A l.length (ints l) ∧ (A = none → l.length = 0 ∧ c = 0) ∧ (l.length ≤ c ∧ c ≤ 9223372036854775807) ∧ Below w.heap.size w w' := by
  obtain ⟨v, rfl, ho, hb⟩ := h
  obtain ⟨A, c, rfl, hr, hn⟩ := own_rd ho
  exact ⟨A, c, rfl, hr, hn, own_cap ho, hb⟩
theorem ints_one (l : List Int) : ∀ u ∈ ints l, u.oneCell' = true := by
  intro u hu
  obtain ⟨x, _, rfl⟩ := List.mem_map.1 hu
  rfl
set_option maxHeartbeats 1000000 in
theorem clone_any (A : Option Addr) (n c : Nat) (l : List Int) (w : World) (hr : Rd w A n (ints l)) (hA : A = none → n = 0 ∧ c = 0) (hn' : n ≤ 100) :
    Calls Try.prog 38 #[.slice A n c] w (Gives w l) := by
  have hl : Hid (l.length = n) := Lib.hid (by have := hr.len; simpa [ints] using this)
  have HR := Lib.hid hr
  have hnl := fun w => Go.run_eql_slice_nil (P := Try.prog) w 47 3 A n c (by kernel_rfl)
  have HN := Lib.hid hn'
  clear hr hn'
  cases A with
  | none =>
    obtain ⟨rfl, rfl⟩ := hA rfl
    go_enter Try.func38, Try.ntmps38
    go_wp2
    go_ret
    have hl0 : l = [] := List.eq_nil_of_length_eq_zero hl.out
    subst hl0
    exact ⟨_, rfl, World.ownsRow_nil _ _ _ _, Below.refl _ _⟩
  | some a =>
    have hne : ¬ (some a = none) := by simp
    have HA : Hid ((some a : Option Addr) = none → n = 0 ∧ c = 0) := Lib.hid hA
    clear hA
    have hls : Lies (w.alloc (.cells #[] 3)) (some a) (ints l) := Rd.lies (HR.out.below (below_alloc _ _))
    have HLS := Lib.hid hls
    clear hls
    go_enter Try.func38, Try.ntmps38
    go_wp2_with (at_builtin; refine wpList_append_src _ rfl (.tmp 5) (.tmp 6) w.heap.size 47 3 (.int .i64 0) 1 8 rfl (by kernel_rfl) (by kernel_rfl) rfl (by decide) (by decide) _ 0 [] rfl (World.ownsRow_lit (size := 1) w #[] 0 (Nat.le_refl _) (by decide) rfl) (some a) n c rfl HA.out (ints l) (by simp [ints, hl.out]) HLS.out (by simp [ints, Value.oneCell']) (by have := HN.out; omega) (by simp) ?_; intro v1 w2 ho1 hg1 hv1)
    go_ret
    refine ⟨_, rfl, by simpa [hl.out] using ho1, ?_⟩
    exact (below_alloc _ _).trans (below_of_grown hg1 (by simp) fun k hk => Nat.le_of_eq (Option.some.inj hk))
/-- what i exchanges make of a list. -/
def revTo (l : List Int) (i : Nat) : List Int := (List.range l.length).map fun j => if j < i ∨ l.length - 1 - j < i then l.getD (l.length - 1 - j) 0 else l.getD j 0
theorem revTo_len (l : List Int) (i : Nat) : (revTo l i).length = l.length := by simp [revTo]
theorem revTo_at (l : List Int) (i j : Nat) (h : j < l.length) : (revTo l i)[j]'(by rw [revTo_len]; exact h) = if j < i ∨ l.length - 1 - j < i then l.getD (l.length - 1 - j) 0 else l.getD j 0 := by simp [revTo]
theorem revTo_zero (l : List Int) : revTo l 0 = l := by
  apply List.ext_getElem
  · exact revTo_len l 0
  · intro j h1 h2
    rw [revTo_at l 0 j h2, if_neg (by omega)]
    simp [h2]
theorem revTo_end (l : List Int) (i : Nat) (h : l.length ≤ 2 * i + 1) : revTo l i = l.reverse := by
  apply List.ext_getElem
  · rw [revTo_len, List.length_reverse]
  · intro j h1 h2
    have hj : j < l.length := by rw [revTo_len] at h1; exact h1
    rw [revTo_at l i j hj, List.getElem_reverse]
    by_cases hc : j < i ∨ l.length - 1 - j < i
    · rw [if_pos hc]; simp [show l.length - 1 - j < l.length by omega]
    · rw [if_neg hc]
      have e : l.length - 1 - j = j := by omega
      simp only [e]
      simp [hj]
theorem revTo_succ (l : List Int) (i : Nat) (h : 2 * i + 1 < l.length) : revTo l (i + 1) = ((revTo l i).set i (l.getD (l.length - 1 - i) 0)).set (l.length - 1 - i) (l.getD i 0) := by
  apply List.ext_getElem
  · simp [revTo]
  · intro j h1 h2
    have hj : j < l.length := by rw [revTo_len] at h1; exact h1
    rw [revTo_at l (i + 1) j hj, List.getElem_set, List.getElem_set, revTo_at l i j hj]
    by_cases e1 : l.length - 1 - i = j
    · rw [if_pos e1, if_pos (by omega)]
      have : l.length - 1 - j = i := by omega
      rw [this]
    · rw [if_neg e1]
      by_cases e2 : i = j
      · rw [if_pos e2, if_pos (by omega), e2]
      · rw [if_neg e2]
        by_cases hc : j < i ∨ l.length - 1 - j < i
        · rw [if_pos hc, if_pos (by omega)]
        · rw [if_neg hc, if_neg (by omega)]
set_option maxHeartbeats 4000000 in
theorem reverse_any (g n c B : Nat) (l : List Int) (w : World) (ho : w.ownsRow B 3 1 (.slice (some ⟨g, 0, none⟩) n c) n (ints l)) (hn : n ≤ 100) :
    Calls Try.prog 39 #[.slice (some ⟨g, 0, none⟩) n c] w fun e w' => e = .returned (.tuple #[]) ∧ w'.ownsRow B 3 1 (.slice (some ⟨g, 0, none⟩) n c) n (ints l.reverse) ∧ Keep [g] w w' := by
  have hl : Hid (l.length = n) := Lib.hid (by have := ho.1; simpa [ints] using this)
  have HO := Lib.hid ho
  clear ho
  have h64 : IntKind.i64.wrap ((n : Int) - 1) = (n : Int) - 1 := IntWalk.i64_in _ (by omega)
  go_enter Try.func39, Try.ntmps39
  go_wp2
  go_loopg [2, 3] n (fun gk i j wr => ∃ k : Nat, gk = n - k ∧ k ≤ n ∧ 2 * k ≤ n + 1 ∧ i = .int .i64 k ∧ j = .int .i64 ((n : Int) - 1 - (k : Int)) ∧ wr.ownsRow B 3 1 (.slice (some ⟨g, 0, none⟩) n c) n (ints (revTo l k)) ∧ Keep [g] w wr)
  case atStart => exact ⟨0, by omega, by omega, by omega, rfl, by simp, by rw [revTo_zero]; exact HO.out, Keep.refl _ _⟩
  case round =>
    obtain ⟨k, rfl, hk, hk2, rfl, rfl, hoR, hK⟩ := hrel
    by_cases hlt : 2 * k + 1 < n
    · have hi : k < l.length := by rw [hl.out]; omega
      have hj : n - 1 - k < l.length := by rw [hl.out]; omega
      obtain ⟨m, hm⟩ : ∃ m : Nat, Hid (n - 1 - k = m) := ⟨_, Lib.hid rfl⟩
      have hmI : Hid ((n : Int) - 1 - (k : Int) = (m : Int)) := Lib.hid (by have := hm.out; omega)
      have hmn : m < n ∧ k < m := by have := hm.out; omega
      have ci := hoR.cellAt k (by omega)
      have cj := hoR.cellAt m (by omega)
      have fi := hoR.frozenAt k
      have fj := hoR.frozenAt m
      have ai : (ints (revTo l k))[k]? = some (.int .i64 (l.getD k 0)) := by
        rw [ints, List.getElem?_map, List.getElem?_eq_getElem (by rw [revTo_len]; exact hi), revTo_at l k k hi, if_neg (by have := hl.out; omega)]; rfl
      have aj : (ints (revTo l k))[m]? = some (.int .i64 (l.getD m 0)) := by
        rw [ints, List.getElem?_map, List.getElem?_eq_getElem (by rw [revTo_len, hl.out]; exact hmn.1), revTo_at l k m (by rw [hl.out]; exact hmn.1), if_neg (by have := hl.out; have := hm.out; omega)]; rfl
      rw [ai] at ci
      rw [aj] at cj
      obtain ⟨x, hx⟩ : ∃ x, Hid (l.getD k 0 = x) := ⟨_, Lib.hid rfl⟩
      obtain ⟨y, hy⟩ : ∃ y, Hid (l.getD m 0 = y) := ⟨_, Lib.hid rfl⟩
      rw [hx.out] at ci
      rw [hy.out] at cj
      rw [hmI.out]
      clear ai aj
      have HR := Lib.hid hoR
      have HK := Lib.hid hK
      clear hoR hK hi hj
      go_wp2
      go_region
      have hset : Hid (((ints (revTo l k)).set k (.int .i64 y)).set m (.int .i64 x) = ints (revTo l (k + 1))) := Lib.hid (by
        rw [revTo_succ l k (by rw [hl.out]; exact hlt), hl.out, hm.out, hx.out, hy.out]
        simp [ints, List.map_set])
      have ho2 := (((HR.out.stored k (.int .i64 y)).1.stored m (.int .i64 x)).1).drew
      rw [hset.out] at ho2
      have HO2 := Lib.hid ho2
      have HK2 := Lib.hid (((HK.out.setCell (p := ⟨g, k, none⟩) (.inl (by simp)) (.int .i64 y)).setCell (p := ⟨g, m, none⟩) (.inl (by simp)) (.int .i64 x)).drew)
      clear ho2 ci cj fi fj
      go_wp2
      go_roundg (n - (k + 1))
      case measure => omega
      case rel => exact ⟨k + 1, rfl, by omega, by omega, by go_num, congrArg (Value.int .i64) (by have := hmI.out; omega), HO2.out, HK2.out⟩
    · clear hk
      have hres : Hid (revTo l k = l.reverse) := Lib.hid (revTo_end l k (by rw [hl.out]; omega))
      go_wp2
      go_end0
      exact ⟨rfl, by rw [← hres.out]; exact hoR, hK⟩
end Go.Proofs.Ytmddcmfleipjjaa.Sp

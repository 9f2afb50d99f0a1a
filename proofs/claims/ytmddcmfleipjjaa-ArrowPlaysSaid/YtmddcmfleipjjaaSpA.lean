/- has, Parent, up, Index, Clone: what they answer. -/
import Derived.Test.YtmddcmfleipjjaaF
import Derived.Test.YtmddcmfleipjjaaT
import Derived.Test.YtmddcmfleipjjaaA
namespace Go.Proofs.Ytmddcmfleipjjaa.Sp
open Go.RowKit Go.Proofs.Ytmddcmfleipjjaa.L Go.Proofs.Ytmddcmfleipjjaa.A Go.Proofs.Ytmddcmfleipjjaa.R Go.Proofs.Ytmddcmfleipjjaa.T Go.Proofs.Ytmddcmfleipjjaa.F
set_option linter.unusedVariables false
set_option linter.unusedSimpArgs false

def ints (l : List Int) : List Value := l.map (Value.int .i64)
/-- a list, handed back in memory of its own. -/
def Gives (w : World) (l : List Int) (e : Ending) (w' : World) : Prop := ∃ v, e = .returned v ∧ w'.ownsRow w.heap.size 3 1 v l.length (ints l) ∧ Below w.heap.size w w'
def offB (t n : Int) : Bool := decide (n < 1) || decide (t < n)
def hasB (t : Int) (l : List Int) : Bool := decide (t ≤ 16) && !l.any (offB t)
theorem has1 (x : Nat) (t n : Int) (w : World) (hx : w.cell? ⟨x, 0, none⟩ = some (.int .i64 t)) :
    Calls Try.prog 36 #[.int .i64 n, .pointer (some ⟨x, 0, none⟩)] w fun e w' => e = .returned (.bool (offB t n)) ∧ w = w' := by
  obtain ⟨r, hr⟩ : ∃ r, Hid (offB t n = r) := ⟨_, Lib.hid rfl⟩
  rw [hr.out]
  by_cases h1 : n < 1
  · have hd : decide (n < 1) = true := by simpa using h1
    go_enter Try.func36, Try.ntmps36
    go_wp2
    go_ret
    exact ⟨retb (by rw [← hr.out]; simp [offB, h1]), rfl⟩
  · have hd : decide (n < 1) = false := by simpa using h1
    by_cases h2 : t < n
    · go_enter Try.func36, Try.ntmps36
      go_wp2
      go_ret
      exact ⟨retb (by rw [← hr.out]; simp [offB, h2]), rfl⟩
    · go_enter Try.func36, Try.ntmps36
      go_wp2
      go_ret
      exact ⟨retbf (by rw [← hr.out]; simp [offB, h1, h2]), rfl⟩
theorem bodied_has1 : Bodied Try.prog 36 := fun _ _ => by kernel_rfl
theorem has_any (t : Int) (A : Option Addr) (n c : Nat) (xs : List Int) (w : World) (hr : Rd w A n (xs.map (Value.int .i64))) (q : Bool) (hq : hasB t xs = q) :
    Calls Try.prog 32 #[.int .i64 t, .slice A n c] w fun e w' => e = .returned (.bool q) ∧ Below w.heap.size w w' := by
  have hmf : ∀ (fn : Fn) (first cap : Array Value) (w : World), (Instr.makeFunc fn first cap).run Try.prog w = .ok (.func fn first cap) w := fun _ _ _ _ => rfl
  have hal := below_alloc w (.cells #[.int .i64 t] 73)
  have told : Go.Proofs.Ytmddcmfleipjjaa.F.Told Try.prog 36 #[.pointer (some ⟨w.heap.size, 0, none⟩)] (offB t) (w.alloc (.cells #[.int .i64 t] 73)) xs := by
    intro x hx w1 hb1
    refine (has1 w.heap.size t x w1 (cell_below hb1 (cell_alloc _ _ _ 0))).mono ?_
    rintro e w2 ⟨rfl, rfl⟩
    exact ⟨rfl, Below.refl _ _⟩
  have HC := Lib.hid (contains_func _ _ _ A n c xs _ bodied_has1 (hr.below hal) told)
  obtain ⟨p, hp⟩ : ∃ p, Hid (xs.any (offB t) = p) := ⟨_, Lib.hid rfl⟩
  rw [hp.out] at HC
  clear hr told hal
  by_cases h1 : t ≤ 16
  · have hd : decide (t ≤ 16) = true := by simpa using h1
    have hq' : Hid ((!p) = q) := Lib.hid (by rw [← hq]; simp [hasB, h1, hp.out])
    clear hq
    go_enter Try.func32, Try.ntmps32
    go_wp2_with fail
    refine HC.out.mono ?_
    rintro e w1 ⟨rfl, hb1⟩
    go_wp2
    go_ret
    exact ⟨retv (show Value.bool (!p) = Value.bool q by rw [hq'.out]), below2 (below_alloc _ _) hb1⟩
  · have hd : decide (t ≤ 16) = false := by simpa using h1
    have hq' : Hid (q = false) := Lib.hid (by rw [← hq]; simp [hasB, h1])
    clear hq
    go_enter Try.func32, Try.ntmps32
    go_wp2
    go_ret
    exact ⟨retbf hq'.out, below_alloc _ _⟩
def parI (n : Int) : Int := if n < 1 then 0 else n / 2
theorem parent_any (n : Int) (w : World) (hn : -9223372036854775808 ≤ n ∧ n ≤ 9223372036854775807) : Calls Try.prog 31 #[.int .i64 n] w fun e w' => e = .returned (.int .i64 (parI n)) ∧ w = w' := by
  by_cases h : n < 1
  · have hp : Hid (parI n = 0) := Lib.hid (by simp [parI, h])
    go_enter Try.func31, Try.ntmps31
    go_wp2
    go_ret
    exact ⟨reti hp.out.symm, rfl⟩
  · have hp : Hid (parI n = n / 2) := Lib.hid (by simp [parI, h])
    go_enter Try.func31, Try.ntmps31
    go_wp2
    go_ret
    exact ⟨reti hp.out.symm, rfl⟩
/-- the nodes from one up to the root. -/
def upN : Nat → List Int
  | 0 => []
  | n + 1 => ((n + 1 : Nat) : Int) :: upN ((n + 1) / 2)
decreasing_by omega
def upI (n : Int) : List Int := upN n.toNat
theorem upI_neg {n : Int} (h : n ≤ 0) : upI n = [] := by
  have : n.toNat = 0 := by omega
  simp [upI, this, upN]
theorem upI_pos {n : Int} (h : 0 < n) : upI n = n :: upI (parI n) := by
  obtain ⟨k, rfl⟩ : ∃ k : Nat, n = ((k + 1 : Nat) : Int) := ⟨n.toNat - 1, by omega⟩
  have e : parI ((k + 1 : Nat) : Int) = (((k + 1) / 2 : Nat) : Int) := by unfold parI; rw [if_neg (by omega)]; omega
  rw [e]
  unfold upI
  simp only [Int.toNat_natCast]
  rw [upN]
theorem upI_len : ∀ (k : Nat) (n : Int), n < 2 ^ k → (upI n).length ≤ k
  | 0, n, h => by rw [upI_neg (by omega)]; simp
  | k + 1, n, h => by
    by_cases h0 : 0 < n
    · rw [upI_pos h0]
      have := upI_len k (parI n) (by unfold parI; split <;> omega)
      simpa using this
    · rw [upI_neg (by omega)]; simp
theorem up_any (n : Int) (w : World) (hn : -9223372036854775808 ≤ n ∧ n ≤ 9223372036854775807) : Calls Try.prog 37 #[.int .i64 n] w (Gives w (upI n)) := by
  have hlen : (upI n).length ≤ 63 := upI_len 63 n (by omega)
  obtain ⟨U, hU⟩ : ∃ U, Hid (upI n = U) := ⟨_, Lib.hid rfl⟩
  rw [hU.out] at hlen ⊢
  have HL := Lib.hid hlen
  go_enter Try.func37, Try.ntmps37
  go_wp2
  go_loopw [0, 3] (fun i v wr => ∃ (m : Int) (acc : List Int) (q : Nat), i = .int .i64 m ∧ m ≤ 9223372036854775807 ∧ -9223372036854775808 ≤ m ∧ q ≤ 63 ∧ wr.ownsRow w.heap.size 3 1 v q (ints acc) ∧ Below w.heap.size w wr ∧ Hid (acc.length = q ∧ acc ++ upI m = U)) (fun i _ _ => (intOf i).toNat)
  case atStart => exact ⟨n, [], 0, rfl, hn.2, hn.1, by omega, World.ownsRow_nil _ _ _ _, Below.refl _ _, Lib.hid ⟨rfl, by simpa using hU.out⟩⟩
  case round =>
    obtain ⟨m, acc, q, rfl, hm1, hm2, hq, ho, hb, hE⟩ := hrel
    by_cases hpos : 0 < m
    · have hE2 : Hid ((acc ++ [m]).length = q + 1 ∧ acc ++ [m] ++ upI (parI m) = U) := Lib.hid ⟨by simp [hE.out.1], by rw [← hE.out.2, upI_pos hpos]; simp⟩
      have hq2 : q + 1 ≤ 63 := by
        have h1 := hE2.out.2
        have h2 := congrArg List.length h1
        rw [List.length_append, hE2.out.1] at h2
        have := HL.out
        omega
      have hbs : w.heap.size ≤ (wr.alloc (.cells #[.int .i64 m] 3)).heap.size := by have := hb.size; simp; omega
      have hlt : parI m < m ∧ 0 ≤ parI m := by unfold parI; rw [if_neg (by omega)]; omega
      obtain ⟨m', hm'⟩ : ∃ m', Hid (parI m = m') := ⟨_, Lib.hid rfl⟩
      rw [hm'.out] at hlt hE2
      have HO := Lib.hid ho
      have HB := Lib.hid hb
      clear hb
      go_wp2_with (first | (at_builtin; refine wpList_append_src _ rfl (.tmp 8) (.tmp 10) w.heap.size 47 3 (.int .i64 0) 1 8 rfl (by kernel_rfl) (by kernel_rfl) rfl (by decide) (by decide) _ q _ rfl (ho.alloc _) (some ⟨wr.heap.size, 0, none⟩) 1 1 rfl (fun h => by cases h) [.int .i64 m] rfl (lies_block (heap_alloc_new _ _)) (by simp [Value.oneCell']) (by omega) hbs ?_; intro v1 w2 ho1 hg1 hv1) | (go_at_call 31; refine (parent_any m _ ⟨hm2, hm1⟩).mono ?_; rintro e w3 ⟨rfl, rfl⟩; rw [hm'.out]))
      have hb2 : Below w.heap.size wr w2 := ((Below.refl _ wr).alloc HB.out.size _).trans (below_of_grown hg1 hbs fun k hk => (HO.out.lt k hk).1)
      go_roundw
      case rel => exact ⟨m', acc ++ [m], q + 1, rfl, by omega, by omega, hq2, by simpa [ints] using ho1, HB.out.trans hb2, hE2⟩
      case measure => simp [intOf]; omega
    · have hres : Hid (acc = U) := Lib.hid (by rw [← hE.out.2, upI_neg (by omega)]; simp)
      go_wp2
      go_ret
      exact ⟨_, rfl, by rw [← hres.out, hE.out.1]; exact ho, hb⟩
/-- slices.Index. -/
theorem index_any (A : Option Addr) (n c : Nat) (xs : List Int) (x : Int) (w : World) (hr : Rd w A n (ints xs)) (q : Int) (hq : idx (fun y => x == y) xs = q) :
    Calls Try.prog 29 #[.slice A n c, .int .i64 x] w fun e w' => e = .returned (.int .i64 q) ∧ w = w' := by
  have hln := hr.2.1
  have HR := Lib.hid hr
  have HL : Hid (xs.length = n) := Lib.hid (by have := hr.len; simpa [ints] using this)
  have HQ := Lib.hid hq
  clear hr hq
  go_enter Try.func29, Try.ntmps29
  go_wp2
  go_loop [8] (fun i => ∃ k : Nat, k ≤ n ∧ i = .int .i64 k ∧ Hid (∀ j, (h : j < xs.length) → j < k → (x == xs[j]) = false)) (fun i => n - (intOf i).toNat)
  case atStart => exact ⟨0, by omega, rfl, Lib.hid fun j _ h => absurd h (by omega)⟩
  case round =>
    obtain ⟨k, hk, rfl, hnot⟩ := hrel
    by_cases hlt : k < n
    · obtain ⟨ab, ao, hA, hc⟩ := HR.out.2.2 (by omega)
      have hkl : k < xs.length := by have := HL.out; omega
      subst hA
      obtain ⟨z, hz⟩ : ∃ z : Int, Hid (z = xs[k]) := ⟨_, Lib.hid rfl⟩
      have hcell := hc k hlt
      rw [ints, List.getElem?_map, List.getElem?_eq_getElem hkl, ← hz.out] at hcell
      simp only [Option.map_some] at hcell
      clear hc
      by_cases hxz : x = z
      · have hres : Hid ((k : Int) = q) := Lib.hid (by rw [← HQ.out]; exact (idx_some hkl hnot.out (by rw [← hz.out]; simpa using hxz)).symm)
        have he : (x == z) = true := by simpa using hxz
        clear hxz
        go_wp2
        go_ret
        exact ⟨reti hres.out, rfl⟩
      · have he : (x == z) = false := by simpa using hxz
        clear hxz
        go_wp2
        go_round
        case rel => exact ⟨k + 1, by omega, by go_num, Lib.hid fun j hj hjk => by
          by_cases e : j = k
          · subst e; rw [← hz.out]; exact he
          · exact hnot.out j hj (by omega)⟩
        case measure => simp [intOf]; omega
    · have hres : Hid (-1 = q) := Lib.hid (by rw [← HQ.out]; exact (idx_none fun j hj => hnot.out j hj (by have := HL.out; omega)).symm)
      go_wp2
      go_ret
      exact ⟨reti hres.out, rfl⟩
end Go.Proofs.Ytmddcmfleipjjaa.Sp

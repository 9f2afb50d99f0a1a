/- Clear, Greatest, and the document's window. -/
import Derived.Test.YtljdiaokjocfpaaWinA
import Derived.Test.YtljdiaokjocfpaaS
namespace Go.Proofs.Ytljdiaokjocfpaa.Win
open Go.RowKit Go.Proofs.Ytljdiaokjocfpaa.L Go.Proofs.Ytljdiaokjocfpaa.A Go.Proofs.Ytljdiaokjocfpaa.R Go.Proofs.Ytljdiaokjocfpaa.S
set_option linter.unusedVariables false
set_option linter.unusedSimpArgs false

theorem clear_nil (w : World) : Calls Try.prog 21 #[.pointer none] w fun e w' => e = .returned (.tuple #[]) ∧ w = w' := by
  go_enter Try.func21, Try.ntmps21
  go_wp2
  go_end0
  exact ⟨rfl, rfl⟩
theorem clear_any (b g x : Nat) (w : World) (h : Win w b g x) : Calls Try.prog 21 #[.pointer (some ⟨b, 0, none⟩)] w fun e w' => e = .returned (.tuple #[]) ∧ Win w' b 0 0 ∧ Keep [b] w w' := by
  have h0 := h.c0
  have h1 := h.c1
  have f0 : w.frozen? ⟨b, 0, none⟩ = false := frozen_of_row w _ _ _ _ h
  have f1 : w.frozen? ⟨b, 1, none⟩ = false := frozen_of_row w _ _ _ _ h
  go_enter Try.func21, Try.ntmps21
  go_wp2
  go_end0
  exact ⟨rfl, (h.set0 0).set1 0 rfl, ((Keep.refl _ _).setCell (.inl (by simp)) _).setCell (.inl (by simp)) _⟩
theorem greatest_nil (w : World) : Calls Try.prog 23 #[.pointer none] w fun e w' => e = .returned (.int .i64 0) ∧ w = w' := by
  go_enter Try.func23, Try.ntmps23
  go_wp2
  go_ret
  exact ⟨rfl, rfl⟩
theorem greatest_any (b g x : Nat) (w : World) (h : Win w b g x) : Calls Try.prog 23 #[.pointer (some ⟨b, 0, none⟩)] w fun e w' => e = .returned (.int .i64 g) ∧ w = w' := by
  have h0 := h.c0
  go_enter Try.func23, Try.ntmps23
  go_wp2
  go_ret
  exact ⟨rfl, rfl⟩

/-! ### the document's window -/
def grt (l : List Int) : Int := l.foldl (fun g x => if g < x then x else g) 0
def refB (l : List Int) (n : Int) : Bool := decide (n < 1) || decide (1099511627776 < n) || decide (n ≤ grt l - 64) || l.contains n
structure Ref (w : World) (b : Nat) (l : List Int) (A : Option Addr) (c : Nat) : Prop where
  blk : w.heap[b]? = some (.cells #[.slice A l.length c] 41 (0, 0))
  own : w.ownsRow (b + 1) 3 1 (.slice A l.length c) l.length (l.map (Value.int .i64))
  rd : Rd w A l.length (l.map (Value.int .i64))
  rng : ∀ x ∈ l, 1 ≤ x ∧ x ≤ 1099511627776
theorem grt_rng (l : List Int) : ∀ g : Int, 0 ≤ g ∧ g ≤ 1099511627776 → (∀ x ∈ l, 1 ≤ x ∧ x ≤ 1099511627776) → 0 ≤ l.foldl (fun g x => if g < x then x else g) g ∧ l.foldl (fun g x => if g < x then x else g) g ≤ 1099511627776 := by
  induction l with
  | nil => intro g h _; exact h
  | cons x l ih =>
    intro g h hr
    have hx := hr x (by simp)
    refine ih (if g < x then x else g) ?_ (fun y hy => hr y (by simp [hy]))
    split <;> omega
theorem Ref.grt {w : World} {b : Nat} {l : List Int} {A : Option Addr} {c : Nat} (h : Ref w b l A c) : 0 ≤ grt l ∧ grt l ≤ 1099511627776 := grt_rng l 0 (by omega) h.rng
theorem Ref.c0 {w : World} {b : Nat} {l : List Int} {A : Option Addr} {c : Nat} (h : Ref w b l A c) : w.cell? ⟨b, 0, none⟩ = some (.slice A l.length c) := by rw [cell_of_row w b 0 _ _ _ h.blk]; rfl
theorem grt_succ (l : List Int) (k : Nat) (h : k < l.length) : grt (l.take (k + 1)) = if grt (l.take k) < l[k] then l[k] else grt (l.take k) := by
  unfold grt
  rw [List.take_succ_eq_append_getElem h, List.foldl_append]
  rfl
theorem rgreatest_any (b : Nat) (l : List Int) (A : Option Addr) (c : Nat) (w : World) (h : Ref w b l A c) :
    Calls Try.prog 24 #[.pointer (some ⟨b, 0, none⟩)] w fun e w' => e = .returned (.int .i64 (grt l)) ∧ w = w' := by
  have h0 := h.c0
  have hln := h.rd.2.1
  obtain ⟨n, hn⟩ : ∃ n : Nat, Hid (l.length = n) := ⟨_, Lib.hid rfl⟩
  have hr := h.rd
  rw [hn.out] at h0 hr hln
  go_enter Try.func24, Try.ntmps24
  go_wp2
  go_loop [3, 4] (fun g i => ∃ k : Nat, k ≤ n ∧ i = .int .i64 k ∧ g = .int .i64 (grt (l.take k))) (fun _ i => n - (intOf i).toNat)
  case atStart => exact ⟨0, by omega, rfl, rfl⟩
  case round =>
    obtain ⟨k, hk, rfl, rfl⟩ := hrel
    obtain ⟨s, hs⟩ : ∃ s : Int, Hid (s = grt (l.take k)) := ⟨_, Lib.hid rfl⟩
    rw [← hs.out]
    by_cases hlt : k < n
    · obtain ⟨ab, ao, hA, hc⟩ := hr.2.2 (by omega)
      have hkl : k < l.length := by have := hn.out; omega
      subst hA
      obtain ⟨z, hz⟩ : ∃ z : Int, Hid (z = l[k]) := ⟨_, Lib.hid rfl⟩
      have hcell : w.cell? ⟨ab, ao + k, none⟩ = some (.int .i64 z) := by
        rw [hc k hlt, hz.out]; simp [hkl]
      have hstep : Hid (grt (l.take (k + 1)) = if s < z then z else s) := Lib.hid (by rw [grt_succ _ k hkl, ← hs.out, hz.out])
      clear hc
      by_cases hg : s < z
      · go_wp2
        go_round
        case rel => exact ⟨k + 1, by omega, by go_num, by rw [hstep.out, if_pos hg]⟩
        case measure => simp [intOf]; omega
      · go_wp2
        go_round
        case rel => exact ⟨k + 1, by omega, by go_num, by rw [hstep.out, if_neg hg]⟩
        case measure => simp [intOf]; omega
    · have hke : k = n := by omega
      subst hke
      have hfin : Hid (s = grt l) := Lib.hid (by rw [hs.out, List.take_of_length_le (by have := hn.out; omega)])
      clear hlt hk
      go_wp2
      go_ret
      exact ⟨retv (show Value.int .i64 s = _ by rw [hfin.out]), rfl⟩
theorem contains_at {l : List Int} {n : Int} (k : Nat) (h : k < l.length) (he : l[k] = n) : l.contains n = true := by
  simp only [List.contains_iff_mem]
  exact he ▸ List.getElem_mem _
theorem not_contains {l : List Int} {n : Int} (h : ∀ k, (hk : k < l.length) → l[k] ≠ n) : l.contains n = false := by
  rw [Bool.eq_false_iff]
  intro hc
  obtain ⟨k, hk, he⟩ := List.getElem_of_mem (List.contains_iff_mem.1 hc)
  exact h k hk he
theorem rseen_any (b : Nat) (l : List Int) (n : Int) (A : Option Addr) (c : Nat) (w : World) (h : Ref w b l A c) (hn : -9223372036854775808 ≤ n ∧ n ≤ 9223372036854775807) :
    Calls Try.prog 26 #[.pointer (some ⟨b, 0, none⟩), .int .i64 n] w fun e w' => e = .returned (.bool (refB l n)) ∧ w = w' := by
  have h0 := h.c0
  have hln := h.rd.2.1
  obtain ⟨m, hm⟩ : ∃ m : Nat, Hid (l.length = m) := ⟨_, Lib.hid rfl⟩
  have hr := h.rd
  rw [hm.out] at h0 hr hln
  by_cases a1 : n < 1
  · have hs : Hid (refB l n = true) := Lib.hid (by simp [refB, a1])
    rw [hs.out]
    clear hs
    go_enter Try.func26, Try.ntmps26
    go_wp2
    go_ret
    exact ⟨rfl, rfl⟩
  · by_cases a2 : 1099511627776 < n
    · have hs : Hid (refB l n = true) := Lib.hid (by simp [refB, a2])
      rw [hs.out]
      clear hs
      go_enter Try.func26, Try.ntmps26
      go_wp2
      go_ret
      exact ⟨rfl, rfl⟩
    · obtain ⟨g, hg⟩ : ∃ g : Int, Hid (grt l = g) := ⟨_, Lib.hid rfl⟩
      have hgr := h.grt
      rw [hg.out] at hgr
      have hw64 : IntKind.i64.wrap (g - 64) = g - 64 := IntWalk.i64_in _ (by omega)
      by_cases a3 : n ≤ g - 64
      · have hs : Hid (refB l n = true) := Lib.hid (by simp [refB, hg.out, a3])
        rw [hs.out]
        clear hs
        go_enter Try.func26, Try.ntmps26
        go_wp2_with (go_at_call 24; refine (rgreatest_any b l A c w h).mono ?_; rintro e w1 ⟨rfl, rfl⟩; rw [hg.out])
        go_ret
        exact ⟨rfl, rfl⟩
      · have hs : Hid (refB l n = l.contains n) := Lib.hid (by simp [refB, hg.out, a1, a2, a3])
        obtain ⟨r, hr2⟩ : ∃ r : Bool, Hid (l.contains n = r) := ⟨_, Lib.hid rfl⟩
        rw [hs.out, hr2.out]
        clear hs
        go_enter Try.func26, Try.ntmps26
        go_wp2_with (go_at_call 24; refine (rgreatest_any b l A c w h).mono ?_; rintro e w1 ⟨rfl, rfl⟩; rw [hg.out])
        go_loop [5] (fun i => ∃ k : Nat, k ≤ m ∧ i = .int .i64 k ∧ ∀ j, (hj : j < l.length) → j < k → l[j] ≠ n) (fun i => m - (intOf i).toNat)
        case atStart => exact ⟨0, by omega, rfl, fun j _ h => absurd h (by omega)⟩
        case round =>
          obtain ⟨k, hk, rfl, hnot⟩ := hrel
          by_cases hlt : k < m
          · obtain ⟨ab, ao, hA, hc⟩ := hr.2.2 (by omega)
            have hkl : k < l.length := by have := hm.out; omega
            subst hA
            obtain ⟨z, hz⟩ : ∃ z : Int, Hid (z = l[k]) := ⟨_, Lib.hid rfl⟩
            have hcell : w.cell? ⟨ab, ao + k, none⟩ = some (.int .i64 z) := by
              rw [hc k hlt, hz.out]; simp [hkl]
            have HN := Lib.hid hnot
            clear hc hnot
            by_cases he : z = n
            · have hres : Hid (l.contains n = true) := Lib.hid (contains_at k hkl (by rw [← hz.out]; exact he))
              go_wp2
              go_ret
              exact ⟨retb (hr2.out.symm.trans hres.out), rfl⟩
            · go_wp2
              go_round
              case rel => exact ⟨k + 1, by omega, by go_num, fun j hj hjk => by
                by_cases e : j = k
                · subst e; rw [← hz.out]; exact he
                · exact HN.out j hj (by omega)⟩
              case measure => simp [intOf]; omega
          · have hres : Hid (l.contains n = false) := Lib.hid (not_contains fun j hj => hnot j hj (by have := hm.out; omega))
            clear hnot
            go_wp2
            go_ret
            exact ⟨retbf (hr2.out.symm.trans hres.out), rfl⟩
/-- a window of the document is untouched where none of its blocks is written. -/
theorem Ref.keep {w w1 : World} {b : Nat} {l : List Int} {A : Option Addr} {c : Nat} (h : Ref w b l A c) {S : List Nat} (hk : Keep S w w1) (hb : b ∉ S) (hs : ∀ k ∈ S, k < b) : Ref w1 b l A c :=
  ⟨keep_block hk h.blk hb, own_keep h.own hk (fun k h1 h2 => by have := (h.own.lt k h1).1; have := hs k h2; omega), h.rd.keep hk (fun ab ao e h2 => by
    subst e
    have := (h.own.lt ab rfl).1
    have := hs ab h2
    omega), h.rng⟩
theorem Ref.below {w w1 : World} {b : Nat} {l : List Int} {A : Option Addr} {c : Nat} (h : Ref w b l A c) (hk : Below w.heap.size w w1) : Ref w1 b l A c :=
  h.keep (S := []) (.of_below hk) (by simp) (by simp)
theorem app_blk {w w2 : World} {b : Nat} {cs : Array Value} {t e : TypeId} {fr : Nat × Nat} {v : Value} {m : Nat} {xs : List Value} {o : Obj} (hblk : w.heap[b]? = some (.cells cs t fr)) (ho : w.ownsRow (b + 1) e 1 v m xs) (hg : (w.alloc o).grownBy w2 v.ownBlock) : w2.heap[b]? = some (.cells cs t fr) := by
  have hbl : b < w.heap.size := (Array.getElem?_eq_some_iff.1 hblk).1
  rw [hg.block b (by simp; omega) (fun e => by have := (ho.lt b e.symm).1; omega), heap_alloc_old _ _ hbl, hblk]
theorem cell_one {w : World} {b : Nat} {v : Value} {t : TypeId} {fr : Nat × Nat} (h : w.heap[b]? = some (.cells #[v] t fr)) : w.cell? ⟨b, 0, none⟩ = some v := by rw [cell_of_row w b 0 _ _ _ h]; rfl
theorem ref_false {l : List Int} {n : Int} (h : refB l n = false) : 1 ≤ n ∧ n ≤ 1099511627776 := by
  simp [refB] at h
  omega
theorem ref_put {w w2 : World} {b : Nat} {l : List Int} {A A1 : Option Addr} {c c1 m : Nat} {n : Int} (HR : Ref w b l A c) (hm : l.length = m) (hb2 : w2.heap[b]? = some (.cells #[.slice A m c] 41 (0, 0)))
    (ho1 : w2.ownsRow (b + 1) 3 1 (.slice A1 (m + 1) c1) (m + 1) (l.map (Value.int .i64) ++ [.int .i64 n])) (hr1 : Rd w2 A1 (m + 1) (l.map (Value.int .i64) ++ [.int .i64 n])) (hn : 1 ≤ n ∧ n ≤ 1099511627776) :
    Ref (w2.setCell ⟨b, 0, none⟩ (.slice A1 (m + 1) c1)) b (l ++ [n]) A1 c1 := by
  have hk : Keep [b] w2 (w2.setCell ⟨b, 0, none⟩ (.slice A1 (m + 1) c1)) := (Keep.refl _ _).setCell (.inl (by simp)) _
  have hne : ∀ k, (Value.slice A1 (m + 1) c1).ownBlock = some k → k ∉ [b] := fun k h1 h2 => by
    have := (ho1.lt k h1).1
    have : k = b := by simpa using h2
    omega
  have hl : (l ++ [n]).length = m + 1 := by simp [hm]
  refine ⟨?_, ?_, ?_, ?_⟩
  · rw [hl, heap_setCell_at w2 b 0 _ _ _ _ hb2]; rfl
  · rw [hl, List.map_append]; exact own_keep ho1 hk hne
  · rw [hl, List.map_append]
    exact hr1.keep hk fun ab ao e => by subst e; exact hne ab rfl
  · intro x hx
    rcases List.mem_append.1 hx with h | h
    · exact HR.rng x h
    · obtain rfl : x = n := by simpa using h
      exact hn
theorem ref_below {w w2 : World} {b : Nat} {cs : Array Value} {t e : TypeId} {fr : Nat × Nat} {v : Value} {m : Nat} {xs : List Value} {o : Obj} {cs2 : Array Value} (hblk : w.heap[b]? = some (.cells cs t fr)) (ho : w.ownsRow (b + 1) e 1 v m xs) (hg : (w.alloc o).grownBy w2 v.ownBlock) (hb2 : w2.heap[b]? = some (.cells cs2 t fr)) (u : Value) :
    Below b w (w2.setCell ⟨b, 0, none⟩ u) := by
  have hbl : b < w.heap.size := (Array.getElem?_eq_some_iff.1 hblk).1
  have hbl2 : b < w2.heap.size := (Array.getElem?_eq_some_iff.1 hb2).1
  refine (((Below.refl b w).alloc (by omega) o).trans (below_of_grown hg (by simp; omega) fun k hk => by have := (ho.lt k hk).1; omega)).trans ?_
  exact ((Keep.refl [b] w2).setCell (.inl (by simp)) u).below (by omega) (by simp)
theorem rsee_any (b : Nat) (l : List Int) (n : Int) (A : Option Addr) (c : Nat) (w : World) (h : Ref w b l A c) (hl : l.length < 1000) (hn : -9223372036854775808 ≤ n ∧ n ≤ 9223372036854775807) :
    Calls Try.prog 22 #[.pointer (some ⟨b, 0, none⟩), .int .i64 n] w fun e w' => e = .returned (.bool (!refB l n)) ∧ (∃ A' c', Ref w' b (if refB l n then l else l ++ [n]) A' c') ∧ Below b w w' := by
  have h0 := h.c0
  have HR := Lib.hid h
  cases hs : refB l n with
  | true =>
    have HS := Lib.hid hs
    clear hs
    go_enter Try.func22, Try.ntmps22
    go_wp2_with (go_at_call 26; refine (rseen_any b l n A c w h hn).mono ?_; rintro e w1 ⟨rfl, rfl⟩; rw [HS.out])
    go_ret
    exact ⟨rfl, ⟨A, c, HR.out⟩, Below.refl _ _⟩
  | false =>
    have HS := Lib.hid hs
    clear hs
    have f0 : w.frozen? ⟨b, 0, none⟩ = false := frozen_of_row w _ _ _ _ h.blk
    obtain ⟨m, hm⟩ : ∃ m : Nat, Hid (l.length = m) := ⟨_, Lib.hid rfl⟩
    have ho := h.own
    have hblk := h.blk
    rw [hm.out] at h0 ho hl hblk
    have hbs : b + 1 ≤ (w.alloc (Obj.cells #[.int .i64 n] 3)).heap.size := by
      have hbl : b < w.heap.size := (Array.getElem?_eq_some_iff.1 HR.out.blk).1
      simp; omega
    go_enter Try.func22, Try.ntmps22
    go_wp2_with (first | (go_at_call 26; refine (rseen_any b l n A c w h hn).mono ?_; rintro e w1 ⟨rfl, rfl⟩; rw [HS.out]) | (at_builtin; refine wpList_append_src _ rfl (.tmp 12) (.tmp 14) (b + 1) 35 3 (.int .i64 0) 1 8 rfl (by kernel_rfl) (by kernel_rfl) rfl (by decide) (by decide) _ m _ rfl (ho.alloc _) (some ⟨w.heap.size, 0, none⟩) 1 1 rfl (fun h => by cases h) [.int .i64 n] rfl (lies_block (heap_alloc_new _ _)) (by simp [Value.oneCell']) (by omega) hbs ?_; intro v1 w2 ho1 hg1 hv1; obtain ⟨A1, c1, rfl, hr1, _⟩ := own_rd ho1; have hb2 := app_blk hblk ho hg1; have h02 := cell_one hb2; have f02 : w2.frozen? ⟨b, 0, none⟩ = false := frozen_of_row w2 _ _ _ _ hb2))
    have HO1 := Lib.hid ho1
    have HG1 := Lib.hid hg1
    have HRD := Lib.hid hr1
    have HB2 := Lib.hid hb2
    have HO := Lib.hid ho
    clear ho1 hg1 hr1 hv1 ho hb2
    go_ret
    exact ⟨rfl, ⟨A1, c1, ref_put HR.out hm.out HB2.out HO1.out HRD.out (ref_false HS.out)⟩, ref_below HR.out.blk HO.out HG1.out HB2.out _⟩
end Go.Proofs.Ytljdiaokjocfpaa.Win

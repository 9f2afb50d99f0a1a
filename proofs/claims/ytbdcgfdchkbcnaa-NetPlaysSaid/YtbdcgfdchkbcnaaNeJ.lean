/- net: calls whose arguments may be wrong; All. -/
import Derived.Test.YtbdcgfdchkbcnaaNeI
import Derived.Lib.LazyBuf
namespace Go.Proofs.Ytbdcgfdchkbcnaa.Ne
open Go.RowKit Go.Proofs.Ytbdcgfdchkbcnaa.L Go.Proofs.Ytbdcgfdchkbcnaa.O Go.Proofs.Ytbdcgfdchkbcnaa.R Go.Proofs.Ytbdcgfdchkbcnaa.A Go.Proofs.Ytbdcgfdchkbcnaa.S Go.Proofs.Ytbdcgfdchkbcnaa.T Go.Proofs.Ytbdcgfdchkbcnaa.C Go.Proofs.Ytbdcgfdchkbcnaa.G Go.Proofs.Ytbdcgfdchkbcnaa.E
set_option linter.unusedVariables false
set_option linter.unusedSimpArgs false

set_option maxHeartbeats 2000000 in
set_option maxRecDepth 100000 in
theorem set_no (b nodes : Nat) (x y : Int) (cv : Bool) (w : World) (hc : w.cell? ⟨b, 0, none⟩ = some (.int .i64 nodes)) (hok : okW nodes x y = false) :
    Calls Try.prog 67 #[.pointer (some ⟨b, 0, none⟩), .int .i64 x, .int .i64 y, .bool cv] w fun e w' => e = .returned (.int .i64 1) ∧ Below w.heap.size w w' := by
  have HW := Lib.hid (way_any b nodes x y w hc)
  obtain ⟨lo, hlo⟩ : ∃ lo, mn x y = lo := ⟨_, rfl⟩
  obtain ⟨hh, hhi⟩ : ∃ hh, mx x y = hh := ⟨_, rfl⟩
  rw [hok, hlo, hhi] at HW
  clear hc hok hlo hhi
  go_enter Try.func67, Try.ntmps67
  go_wp2_with fail
  refine HW.out.mono ?_
  rintro e w1 ⟨rfl, hb1⟩
  have HB := Lib.hid (below2 hb1 (below_alloc w1 (.cells #[.int .i64 lo, .int .i64 hh] 125)))
  clear hb1
  go_wp2
  go_ret
  exact ⟨rfl, HB.out⟩
/-- a way is cut, or healed. -/
theorem set_any (b mb nodes n : Nat) (f : Int → Int → Bool) (v : Value) (L : List Value) (k : Nat) (x y : Int) (cv : Bool) (w : World) (h : Nt w b mb nodes n f v L k) (hn : n < 1000000) (hx : (Lit.int .i64 x).wf = true) (hy : (Lit.int .i64 y).wf = true) :
    Calls Try.prog 67 #[.pointer (some ⟨b, 0, none⟩), .int .i64 x, .int .i64 y, .bool cv] w fun e w' => e = .returned (.int .i64 (if okW nodes x y then 0 else 1)) ∧ Nt w' b mb nodes (n + 1) (if okW nodes x y then upd f x y cv else f) v L k ∧ Keep [mb] w w' := by
  obtain ⟨c0, c1, c2, f2⟩ := h.cell
  have hmb := h.mb
  cases hok : okW nodes x y with
  | true =>
    refine (set_ok b nodes mb n f x y cv w c0 c1 h.map hn hx hy hok).mono ?_
    rintro e w1 ⟨rfl, hm, hk⟩
    exact ⟨rfl, ⟨keep_block hk h.blk (by simp; omega), own_keep h.own hk (fun j hj => by have := (Go.Proofs.Ytbdcgfdchkbcnaa.A.own_lt h.own j hj).1; simp; omega), hm, hmb⟩, hk⟩
  | false =>
    refine (set_no b nodes x y cv w c0 hok).mono ?_
    rintro e w1 ⟨rfl, hb⟩
    have h' := h.below hb
    obtain ⟨D, h1, h2⟩ := h'.map
    exact ⟨rfl, ⟨h'.blk, h'.own, ⟨D, h1.mono (Nat.le_succ _), h2⟩, hmb⟩, .of_below hb⟩
theorem cut_any (b mb nodes n : Nat) (f : Int → Int → Bool) (v : Value) (L : List Value) (k : Nat) (x y : Int) (w : World) (h : Nt w b mb nodes n f v L k) (hn : n < 1000000) (hx : (Lit.int .i64 x).wf = true) (hy : (Lit.int .i64 y).wf = true) :
    Calls Try.prog 23 #[.pointer (some ⟨b, 0, none⟩), .int .i64 x, .int .i64 y] w fun e w' => e = .returned (.int .i64 (if okW nodes x y then 0 else 1)) ∧ Nt w' b mb nodes (n + 1) (if okW nodes x y then upd f x y true else f) v L k ∧ Keep [mb] w w' := by
  have HS := Lib.hid (set_any b mb nodes n f v L k x y true w h hn hx hy)
  obtain ⟨r, hr⟩ : ∃ r : Int, (if okW nodes x y then 0 else 1) = r := ⟨_, rfl⟩
  obtain ⟨F, hF⟩ : ∃ F, (if okW nodes x y then upd f x y true else f) = F := ⟨_, rfl⟩
  rw [hr, hF] at HS ⊢
  clear h hr hF
  go_enter Try.func23, Try.ntmps23
  go_wp2_with fail
  refine HS.out.mono ?_
  rintro e w1 ⟨rfl, hm, hk⟩
  have HM := Lib.hid (And.intro hm hk)
  clear hm hk
  go_wp2
  go_ret
  exact ⟨rfl, HM.out⟩
theorem heal_any (b mb nodes n : Nat) (f : Int → Int → Bool) (v : Value) (L : List Value) (k : Nat) (x y : Int) (w : World) (h : Nt w b mb nodes n f v L k) (hn : n < 1000000) (hx : (Lit.int .i64 x).wf = true) (hy : (Lit.int .i64 y).wf = true) :
    Calls Try.prog 24 #[.pointer (some ⟨b, 0, none⟩), .int .i64 x, .int .i64 y] w fun e w' => e = .returned (.int .i64 (if okW nodes x y then 0 else 1)) ∧ Nt w' b mb nodes (n + 1) (if okW nodes x y then upd f x y false else f) v L k ∧ Keep [mb] w w' := by
  have HS := Lib.hid (set_any b mb nodes n f v L k x y false w h hn hx hy)
  obtain ⟨r, hr⟩ : ∃ r : Int, (if okW nodes x y then 0 else 1) = r := ⟨_, rfl⟩
  obtain ⟨F, hF⟩ : ∃ F, (if okW nodes x y then upd f x y false else f) = F := ⟨_, rfl⟩
  rw [hr, hF] at HS ⊢
  clear h hr hF
  go_enter Try.func24, Try.ntmps24
  go_wp2_with fail
  refine HS.out.mono ?_
  rintro e w1 ⟨rfl, hm, hk⟩
  have HM := Lib.hid (And.intro hm hk)
  clear hm hk
  go_wp2
  go_ret
  exact ⟨rfl, HM.out⟩
theorem there_no (b nodes mb n : Nat) (f : Int → Int → Bool) (v : Value) (L : List Value) (k : Nat) (i : Int) (w : World) (h : Nt w b mb nodes n f v L k) (hi : ¬ (0 ≤ i ∧ i < k)) :
    Calls Try.prog 64 #[.pointer (some ⟨b, 0, none⟩), .int .i64 i] w fun e w' => e = .returned (.bool false) ∧ w = w' := by
  obtain ⟨c0, c1, c2, f2⟩ := h.cell
  obtain ⟨A, c, hv⟩ := own_form4 h.own
  rw [own_len h.own hv] at c2
  clear h hv
  by_cases h0 : 0 ≤ i
  · have hd0 : decide (0 ≤ i) = true := by simpa using h0
    have hd : decide (i < (k : Int)) = false := by simp; omega
    go_enter Try.func64, Try.ntmps64
    go_wp2
    go_ret
    exact ⟨rfl, rfl⟩
  · have hd0 : decide (0 ≤ i) = false := by simpa using h0
    go_enter Try.func64, Try.ntmps64
    go_wp2
    go_ret
    exact ⟨rfl, rfl⟩
set_option maxHeartbeats 2000000 in
theorem take_no (b nodes mb n : Nat) (f : Int → Int → Bool) (v : Value) (L : List Value) (k : Nat) (i : Int) (w : World) (h : Nt w b mb nodes n f v L k) (hi : ¬ (0 ≤ i ∧ i < k)) : Calls Try.prog 19 #[.pointer (some ⟨b, 0, none⟩), .int .i64 i] w fun e w' => e = .returned (.tuple #[.agg #[.int .i64 0, .int .i64 0, .string ⟨#[]⟩, .bool false], .int .i64 8]) ∧ Below w.heap.size w w' := by
  obtain ⟨W, hW⟩ : ∃ W, Hid (w.alloc (.cells #[.int .i64 0, .int .i64 0, .string ⟨#[]⟩, .bool false] 29) = W) := ⟨_, Lib.hid rfl⟩
  have hb0 : Below w.heap.size w W := by rw [← hW.out]; exact below_alloc _ _
  have h1 : Hid (W.heap[w.heap.size]? = some (.cells #[.int .i64 0, .int .i64 0, .string ⟨#[]⟩, .bool false] 29 (0, 0))) := Lib.hid (by rw [← hW.out]; exact heap_alloc_new _ _)
  have HB := Lib.hid hb0
  have HT := Lib.hid (there_no b nodes mb n f v L k i W (h.below hb0) hi)
  clear hb0 h hi
  go_enter Try.func19, Try.ntmps19
  go_wp2_with fail
  rw [hW.out]
  refine HT.out.mono ?_
  rintro e w1 ⟨rfl, rfl⟩
  go_wp2_with (refine wpList_store_blk rfl 29 (.tmp 4) (.tmp 11) rfl w.heap.size 0 rfl 29 _ (.agg #[.int .i64 0, .int .i64 0, .string ⟨#[]⟩, .bool false]) rfl h1.out (by kernel_rfl) (by decide) (by simp [Value.cells, Value.oneCell']) _ rfl ?_; intro w5 hg5 hu5)
  have k0 : w5.cell? ⟨w.heap.size, 0, none⟩ = some (.int .i64 0) := by rw [cell_of_row w5 _ 0 _ _ _ hg5]; rfl
  have k1 : w5.cell? ⟨w.heap.size, 1, none⟩ = some (.int .i64 0) := by rw [cell_of_row w5 _ 1 _ _ _ hg5]; rfl
  have k2 : w5.cell? ⟨w.heap.size, 2, none⟩ = some (.string ⟨#[]⟩) := by rw [cell_of_row w5 _ 2 _ _ _ hg5]; rfl
  have k3 : w5.cell? ⟨w.heap.size, 3, none⟩ = some (.bool false) := by rw [cell_of_row w5 _ 3 _ _ _ hg5]; rfl
  refine bodyPost_ret (v := .tuple #[.agg #[.int .i64 0, .int .i64 0, .string ⟨#[]⟩, .bool false], .int .i64 8]) (by simp [results, Try.results19, go_sem, k0, k1, k2, k3]) rfl ⟨rfl, ?_⟩
  exact HB.out.trans (hu5.below (Nat.le_refl _))
theorem double_no (b nodes mb n : Nat) (f : Int → Int → Bool) (v : Value) (L : List Value) (k : Nat) (i : Int) (w : World) (h : Nt w b mb nodes n f v L k) (hi : ¬ (0 ≤ i ∧ i < k)) : Calls Try.prog 22 #[.pointer (some ⟨b, 0, none⟩), .int .i64 i] w fun e w' => e = .returned (.int .i64 8) ∧ w = w' := by
  have HT := Lib.hid (there_no b nodes mb n f v L k i w h hi)
  clear h hi
  go_enter Try.func22, Try.ntmps22
  go_wp2_with fail
  refine HT.out.mono ?_
  rintro e w1 ⟨rfl, rfl⟩
  go_wp2
  go_ret
  exact ⟨rfl, rfl⟩
theorem double_full (b nodes mb n : Nat) (f : Int → Int → Bool) (v : Value) (L : List Value) (k i : Nat) (w : World) (h : Nt w b mb nodes n f v L k) (hi : i < k) (hk : 256 ≤ k) : Calls Try.prog 22 #[.pointer (some ⟨b, 0, none⟩), .int .i64 i] w fun e w' => e = .returned (.int .i64 6) ∧ w = w' := by
  have HT := Lib.hid (there_ok b nodes mb n f v L k i w h hi)
  obtain ⟨c0, c1, c2, f2⟩ := h.cell
  obtain ⟨A, c, hv⟩ := own_form4 h.own
  rw [own_len h.own hv] at c2
  have hd : decide ((256 : Int) ≤ (k : Int)) = true := by simp; omega
  clear h hi hv
  go_enter Try.func22, Try.ntmps22
  go_wp2_with fail
  refine HT.out.mono ?_
  rintro e w1 ⟨rfl, rfl⟩
  go_wp2
  go_ret
  exact ⟨rfl, rfl⟩
theorem lies_rdE {α : Type} {w : World} {A : Option Addr} {n sz : Nat} {enc : α → List Value} {xs : List α} (h : RdE w A n sz (xs.map enc)) (he : ∀ x, (enc x).length = sz) (hz : 0 < sz) : Lies w A (xs.flatMap enc) := fun h0 => by
  have hxl : xs.length = n := by have := h.1; simpa using this
  have hfl := flat_len he xs
  have hn : 0 < n := by
    rcases Nat.eq_zero_or_pos n with h | h
    · rw [hfl, hxl, h] at h0; simp at h0
    · exact h
  obtain ⟨b, o, hA, hc⟩ := h.2.2.2 hn
  refine ⟨b, o, hA, fun j hj => ?_⟩
  rw [hfl, hxl] at hj
  have hi : j / sz < n := Nat.div_lt_of_lt_mul (by rw [Nat.mul_comm]; exact hj)
  have hr : j % sz < sz := Nat.mod_lt _ hz
  have e : j / sz * sz + j % sz = j := by rw [Nat.mul_comm]; exact Nat.div_add_mod j sz
  have h1 := hc (j / sz) hi (j % sz) hr
  rw [Nat.add_assoc, e, List.getElem?_map, Option.bind_map] at h1
  have h2 := flat_at he hr xs (j / sz)
  rw [e] at h2
  rw [h1, h2]
  rfl
theorem clone_pkt (A : Option Addr) (n c : Nat) (L : List Pkt) (w : World) (hr : RdE w A n 4 (L.map encP)) (hA : A = none → n = 0 ∧ c = 0) (hn' : n ≤ 1000000) :
    Calls Try.prog 66 #[.slice A n c] w fun e w' => ∃ v, e = .returned v ∧ w'.ownsRow w.heap.size PT 4 v n (L.flatMap encP) ∧ Below w.heap.size w w' := by
  have hl : Hid (L.length = n) := Lib.hid (by have := hr.1; simpa using this)
  have HR := Lib.hid hr
  have hnl := fun w => Go.run_eql_slice_nil (P := Try.prog) w 22 29 A n c (by kernel_rfl)
  have HN := Lib.hid hn'
  clear hr hn'
  cases A with
  | none =>
    obtain ⟨rfl, rfl⟩ := hA rfl
    go_enter Try.func66, Try.ntmps66
    go_wp2
    go_ret
    have hl0 : L = [] := List.eq_nil_of_length_eq_zero hl.out
    subst hl0
    exact ⟨_, rfl, World.ownsRow_nil _ _ _ _, Below.refl _ _⟩
  | some a =>
    have hne : ¬ (some a = none) := by simp
    have HA : Hid ((some a : Option Addr) = none → n = 0 ∧ c = 0) := Lib.hid hA
    clear hA
    have hls : Lies (w.alloc (.cells #[] 29)) (some a) (L.flatMap encP) := lies_rdE (HR.out.below (below_alloc _ _)) encP_len (by decide)
    have HLS := Lib.hid hls
    have H1 : Hid (∀ u ∈ L.flatMap encP, u.oneCell' = true) := Lib.hid one_pkt
    have HFL : Hid ((L.flatMap encP).length = n * 4) := Lib.hid (by rw [flat_len encP_len, hl.out])
    clear hls
    obtain ⟨F, hF⟩ : ∃ F, L.flatMap encP = F := ⟨_, rfl⟩
    rw [hF] at HLS H1 HFL ⊢
    go_enter Try.func66, Try.ntmps66
    go_wp2_with (at_builtin; refine wpList_append_src _ rfl (.tmp 5) (.tmp 6) w.heap.size 22 PT (.agg #[.int .i64 0, .int .i64 0, .string ⟨#[]⟩, .bool false]) 4 40 rfl (by kernel_rfl) (by kernel_rfl) rfl (by decide) (by decide) _ 0 [] rfl (World.ownsRow_lit (size := 4) w #[] 0 (Nat.le_refl _) (by decide) rfl) (some a) n c rfl HA.out F HFL.out HLS.out H1.out (by have := HN.out; omega) (by simp) ?_; intro v1 w2 ho1 hg1 hv1)
    go_ret
    refine ⟨_, rfl, by simpa using ho1, below_first hg1⟩
theorem all_any (b nodes mb n : Nat) (f : Int → Int → Bool) (v : Value) (Ls : List Pkt) (w : World) (h : Nt w b mb nodes n f v (Ls.flatMap encP) Ls.length) (hsm : Ls.length ≤ 256) :
    Calls Try.prog 21 #[.pointer (some ⟨b, 0, none⟩)] w fun e w' => ∃ v, e = .returned v ∧ w'.ownsRow w.heap.size PT 4 v Ls.length (Ls.flatMap encP) ∧ Below w.heap.size w w' := by
  obtain ⟨A, cp, hv, hr, hA, hnone⟩ := own_rdE h.own encP_len rfl
  have hc := h.cell.2.2.1
  rw [hv] at hc
  have HC := Lib.hid (clone_pkt A Ls.length cp Ls w hr hnone (by omega))
  clear h hr hA hnone hv
  go_enter Try.func21, Try.ntmps21
  go_wp2_with fail
  refine HC.out.mono ?_
  rintro e w' ⟨v, rfl, ho, hb⟩
  go_wp2
  go_ret
  exact ⟨v, rfl, ho, hb⟩
end Go.Proofs.Ytbdcgfdchkbcnaa.Ne

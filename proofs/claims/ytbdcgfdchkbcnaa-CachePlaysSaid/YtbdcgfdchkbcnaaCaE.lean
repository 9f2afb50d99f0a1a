/- cache: New, Put, Peek, Clear, All. -/
import Derived.Test.YtbdcgfdchkbcnaaCaD
import Derived.Lib.LazyBuf
namespace Go.Proofs.Ytbdcgfdchkbcnaa.Ca
open Go.RowKit Go.Proofs.Ytbdcgfdchkbcnaa.L Go.Proofs.Ytbdcgfdchkbcnaa.R Go.Proofs.Ytbdcgfdchkbcnaa.A Go.Proofs.Ytbdcgfdchkbcnaa.S Go.Proofs.Ytbdcgfdchkbcnaa.T Go.Proofs.Ytbdcgfdchkbcnaa.C Go.Proofs.Ytbdcgfdchkbcnaa.G Go.Proofs.Ytbdcgfdchkbcnaa.E Go.Proofs.Ytbdcgfdchkbcnaa.F
set_option linter.unusedVariables false
set_option linter.unusedSimpArgs false

def PB (b : Nat) : Value := .pointer (some ⟨b, 0, none⟩)
theorem new_ok (room : Nat) (w : World) (h1 : 0 < room) (h2 : room ≤ 16) :
    Calls Try.prog 48 #[.int .i64 room] w fun e w' => e = .returned (.tuple #[.pointer (some ⟨w.heap.size, 0, none⟩), .int .i64 0]) ∧ Ca CT ET w' w.heap.size room (.slice none 0 0) [] ∧ w.heap.size < w'.heap.size ∧ Below w.heap.size w w' := by
  have hd1 : decide ((room : Int) < 1) = false := by simp; omega
  have hd2 : decide ((16 : Int) < (room : Int)) = false := by simp; omega
  have hb := Lib.hid (below_alloc w (.cells #[.int .i64 room, .slice none 0 0] 118))
  have hg := Lib.hid (heap_alloc_new w (.cells #[.int .i64 room, .slice none 0 0] 118))
  go_enter Try.func48, Try.ntmps48
  go_wp2
  refine bodyPost_ret (v := .tuple #[.pointer (some ⟨w.heap.size, 0, none⟩), .int .i64 0]) (by simp [results, Try.results48, go_sem]) rfl ?_
  exact ⟨rfl, ⟨hg.out, by simp, .inl ⟨rfl, rfl⟩⟩, by simp, hb.out⟩
theorem new_bad (room : Int) (w : World) (h : room < 1 ∨ 16 < room) :
    Calls Try.prog 48 #[.int .i64 room] w fun e w' => e = .returned (.tuple #[.pointer none, .int .i64 1]) ∧ Below w.heap.size w w' := by
  by_cases h1 : room < 1
  · have hd1 : decide (room < 1) = true := by simpa using h1
    go_enter Try.func48, Try.ntmps48
    go_wp2
    refine bodyPost_ret (v := .tuple #[.pointer none, .int .i64 1]) (by simp [results, Try.results48, go_sem]) rfl ?_
    exact ⟨rfl, Below.refl _ _⟩
  · have hd1 : decide (room < 1) = false := by simpa using h1
    have hd2 : decide (16 < room) = true := by simp; omega
    go_enter Try.func48, Try.ntmps48
    go_wp2
    refine bodyPost_ret (v := .tuple #[.pointer none, .int .i64 1]) (by simp [results, Try.results48, go_sem]) rfl ?_
    exact ⟨rfl, Below.refl _ _⟩
theorem clear_any (b room : Nat) (v : Value) (L : List Ent) (w : World) (h : Ca CT ET w b room v L) :
    Calls Try.prog 60 #[.pointer (some ⟨b, 0, none⟩)] w fun e w' => e = .returned (.tuple #[]) ∧ Goes b room v [] w w' := by
  obtain ⟨c0, c1, f0, f1⟩ := h.cell
  have hf : Hid (Goes b room v [] w (w.setCell ⟨b, 1, none⟩ (.slice none 0 0))) := Lib.hid ⟨.slice none 0 0, ⟨(Go.Proofs.Ytbdcgfdchkbcnaa.L.heap_setCell_at w b 1 _ _ _ _ h.blk).trans rfl, by simp, .inl ⟨rfl, rfl⟩⟩, (Keep.refl _ _).setCell (p := ⟨b, 1, none⟩) (.inl (by simp)) _, .inr fun k hk => by cases hk⟩
  clear h
  go_enter Try.func60, Try.ntmps60
  go_wp2
  go_end0
  exact ⟨rfl, hf.out⟩
theorem clear_nil (w : World) : Calls Try.prog 60 #[.pointer none] w fun e w' => e = .returned (.tuple #[]) ∧ Below w.heap.size w w' := by
  go_enter Try.func60, Try.ntmps60
  go_wp2
  go_end0
  exact ⟨rfl, Below.refl _ _⟩
theorem lies_rdE {α : Type} {w : World} {A : Option Addr} {n sz : Nat} {enc : α → List Value} {xs : List α} (h : RdE w A n sz (xs.map enc)) (he : ∀ x, (enc x).length = sz) (hz : 0 < sz) : Lies w A (xs.flatMap enc) := fun h0 => by
  have hxl : xs.length = n := by have := h.1; simpa using this
  have hfl := flat_len he xs
  have hn : 0 < n := by
    rcases Nat.eq_zero_or_pos n with h | h
    · rw [hfl, hxl, h] at h0; simp at h0
    · exact h
  obtain ⟨b, o, hA, hc⟩ := h.2.2.2 hn
  refine ⟨b, o, hA, fun j hj => ?_⟩
  rw [hfl, hxl] at hj
  have hi : j / sz < n := Nat.div_lt_of_lt_mul (by rw [Nat.mul_comm]; exact hj)
  have hr : j % sz < sz := Nat.mod_lt _ hz
  have e : j / sz * sz + j % sz = j := by rw [Nat.mul_comm]; exact Nat.div_add_mod j sz
  have h1 := hc (j / sz) hi (j % sz) hr
  rw [Nat.add_assoc, e, List.getElem?_map, Option.bind_map] at h1
  have h2 := flat_at he hr xs (j / sz)
  rw [e] at h2
  rw [h1, h2]
  rfl
theorem clone_ent (A : Option Addr) (n c : Nat) (L : List Ent) (w : World) (hr : RdE w A n 4 (L.map encE)) (hA : A = none → n = 0 ∧ c = 0) (hn' : n ≤ 1000000) :
    Calls Try.prog 78 #[.slice A n c] w fun e w' => ∃ v, e = .returned v ∧ w'.ownsRow w.heap.size ET 4 v n (L.flatMap encE) ∧ Below w.heap.size w w' := by
  have hl : Hid (L.length = n) := Lib.hid (by have := hr.1; simpa using this)
  have HR := Lib.hid hr
  have hnl := fun w => Go.run_eql_slice_nil (P := Try.prog) w 80 77 A n c (by kernel_rfl)
  have HN := Lib.hid hn'
  clear hr hn'
  cases A with
  | none =>
    obtain ⟨rfl, rfl⟩ := hA rfl
    go_enter Try.func78, Try.ntmps78
    go_wp2
    go_ret
    have hl0 : L = [] := List.eq_nil_of_length_eq_zero hl.out
    subst hl0
    exact ⟨_, rfl, World.ownsRow_nil _ _ _ _, Below.refl _ _⟩
  | some a =>
    have hne : ¬ (some a = none) := by simp
    have HA : Hid ((some a : Option Addr) = none → n = 0 ∧ c = 0) := Lib.hid hA
    clear hA
    have hls : Lies (w.alloc (.cells #[] 77)) (some a) (L.flatMap encE) := lies_rdE (HR.out.below (below_alloc _ _)) encE_len (by decide)
    have HLS := Lib.hid hls
    have H1 : Hid (∀ u ∈ L.flatMap encE, u.oneCell' = true) := Lib.hid one_enc
    have HFL : Hid ((L.flatMap encE).length = n * 4) := Lib.hid (by rw [flat_len encE_len, hl.out])
    clear hls
    obtain ⟨F, hF⟩ : ∃ F, L.flatMap encE = F := ⟨_, rfl⟩
    rw [hF] at HLS H1 HFL ⊢
    go_enter Try.func78, Try.ntmps78
    go_wp2_with (at_builtin; refine wpList_append_src _ rfl (.tmp 5) (.tmp 6) w.heap.size 80 77 (.agg #[.int .i64 0, .int .i64 0, .int .i64 0, .int .i64 0]) 4 32 rfl (by kernel_rfl) (by kernel_rfl) rfl (by decide) (by decide) _ 0 [] rfl (World.ownsRow_lit (size := 4) w #[] 0 (Nat.le_refl _) (by decide) rfl) (some a) n c rfl HA.out F HFL.out HLS.out H1.out (by have := HN.out; omega) (by simp) ?_; intro v1 w2 ho1 hg1 hv1)
    go_ret
    refine ⟨_, rfl, by simpa using ho1, below_first hg1⟩
theorem all_nil (w : World) : Calls Try.prog 51 #[.pointer none] w fun e w' => e = .returned (.slice none 0 0) ∧ Below w.heap.size w w' := by
  go_enter Try.func51, Try.ntmps51
  go_wp2
  go_ret
  exact ⟨rfl, Below.refl _ _⟩
theorem all_any (b room : Nat) (v : Value) (L : List Ent) (w : World) (h : Ca CT ET w b room v L) (hn9 : L.length ≤ 1000000) :
    Calls Try.prog 51 #[.pointer (some ⟨b, 0, none⟩)] w fun e w' => ∃ v, e = .returned v ∧ w'.ownsRow w.heap.size ET 4 v L.length (L.flatMap encE) ∧ Below w.heap.size w w' := by
  obtain ⟨A, cp, rfl, hr, hA, hnone⟩ := h.rd
  have hc := h.cell.2.1
  have HC := Lib.hid (clone_ent A L.length cp L w hr hnone hn9)
  clear h hr hA hnone
  go_enter Try.func51, Try.ntmps51
  go_wp2_with fail
  refine HC.out.mono ?_
  rintro e w' ⟨v, rfl, ho, hb⟩
  go_wp2
  go_ret
  exact ⟨v, rfl, ho, hb⟩
set_option maxHeartbeats 1000000 in
theorem peek_nil (c : Int) (w : World) : Calls Try.prog 50 #[.pointer none, .int .i64 c] w fun e w' => e = .returned (.tuple #[aggE z0, .bool false]) ∧ Below w.heap.size w w' := by
  obtain ⟨W, hW⟩ : ∃ W, Hid (w.alloc (.cells #[.int .i64 0, .int .i64 0, .int .i64 0, .int .i64 0] 77) = W) := ⟨_, Lib.hid rfl⟩
  have hb0 : Below w.heap.size w W := by rw [← hW.out]; exact below_alloc _ _
  have hW0 : W.heap[w.heap.size]? = some (.cells #[.int .i64 0, .int .i64 0, .int .i64 0, .int .i64 0] 77 (0, 0)) := by rw [← hW.out]; exact heap_alloc_new _ _
  have HB := Lib.hid hb0
  have HC := Lib.hid (find_nil c W)
  have HW0 := Lib.hid hW0
  clear hb0 hW0
  go_enter Try.func50, Try.ntmps50
  go_wp2_with fail
  rw [hW.out]
  refine HC.out.mono ?_
  rintro e w1 ⟨rfl, hb⟩
  have h1 := Lib.hid ((hb.block w.heap.size (Array.getElem?_eq_some_iff.1 HW0.out).1).trans HW0.out)
  go_wp2_with (refine wpList_store_blk rfl 77 (.tmp 4) (.tmp 12) rfl w.heap.size 0 rfl 77 _ (.agg #[.int .i64 0, .int .i64 0, .int .i64 0, .int .i64 0]) rfl h1.out (by kernel_rfl) (by decide) (by simp [Value.cells, Value.oneCell']) _ rfl ?_; intro w5 hg5 hu5)
  have k0 : w5.cell? ⟨w.heap.size, 0, none⟩ = some (.int .i64 0) := by rw [cell_of_row w5 _ 0 _ _ _ hg5]; rfl
  have k1 : w5.cell? ⟨w.heap.size, 1, none⟩ = some (.int .i64 0) := by rw [cell_of_row w5 _ 1 _ _ _ hg5]; rfl
  have k2 : w5.cell? ⟨w.heap.size, 2, none⟩ = some (.int .i64 0) := by rw [cell_of_row w5 _ 2 _ _ _ hg5]; rfl
  have k3 : w5.cell? ⟨w.heap.size, 3, none⟩ = some (.int .i64 0) := by rw [cell_of_row w5 _ 3 _ _ _ hg5]; rfl
  refine bodyPost_ret (v := .tuple #[.agg #[.int .i64 0, .int .i64 0, .int .i64 0, .int .i64 0], .bool false]) (by simp [results, Try.results50, go_sem, k0, k1, k2, k3]) rfl ⟨rfl, ?_⟩
  exact (below2 HB.out hb).trans (hu5.below (Nat.le_refl _))
set_option maxHeartbeats 1000000 in
theorem peek_any (b room : Nat) (v : Value) (L : List Ent) (c : Int) (w : World) (h : Ca CT ET w b room v L) (hsm : L.length ≤ 100000) :
    Calls Try.prog 50 #[.pointer (some ⟨b, 0, none⟩), .int .i64 c] w fun e w' => e = .returned (.tuple #[aggE (peekL c L).1, .bool (peekL c L).2]) ∧ Below w.heap.size w w' := by
  obtain ⟨W, hW⟩ : ∃ W, Hid (w.alloc (.cells #[.int .i64 0, .int .i64 0, .int .i64 0, .int .i64 0] 77) = W) := ⟨_, Lib.hid rfl⟩
  have hb0 : Below w.heap.size w W := by rw [← hW.out]; exact below_alloc _ _
  have hW0 : W.heap[w.heap.size]? = some (.cells #[.int .i64 0, .int .i64 0, .int .i64 0, .int .i64 0] 77 (0, 0)) := by rw [← hW.out]; exact heap_alloc_new _ _
  have H0 := h.below hb0
  have HB := Lib.hid hb0
  have HC := Lib.hid (find_any b room v L c W H0)
  have HW0 := Lib.hid hW0
  have HH := Lib.hid H0
  clear hb0 hW0 H0 h
  cases hl : look c L with
  | none =>
    have hp : peekL c L = (z0, false) := by simp [peekL, hl]
    rw [show fnd c L = -1 by simp [fnd, hl]] at HC
    rw [hp]
    clear hp hl HH
    go_enter Try.func50, Try.ntmps50
    go_wp2_with fail
    rw [hW.out]
    refine HC.out.mono ?_
    rintro e w1 ⟨rfl, hb⟩
    have h1 := Lib.hid ((hb.block w.heap.size (Array.getElem?_eq_some_iff.1 HW0.out).1).trans HW0.out)
    go_wp2_with (refine wpList_store_blk rfl 77 (.tmp 4) (.tmp 12) rfl w.heap.size 0 rfl 77 _ (.agg #[.int .i64 0, .int .i64 0, .int .i64 0, .int .i64 0]) rfl h1.out (by kernel_rfl) (by decide) (by simp [Value.cells, Value.oneCell']) _ rfl ?_; intro w5 hg5 hu5)
    have k0 : w5.cell? ⟨w.heap.size, 0, none⟩ = some (.int .i64 0) := by rw [cell_of_row w5 _ 0 _ _ _ hg5]; rfl
    have k1 : w5.cell? ⟨w.heap.size, 1, none⟩ = some (.int .i64 0) := by rw [cell_of_row w5 _ 1 _ _ _ hg5]; rfl
    have k2 : w5.cell? ⟨w.heap.size, 2, none⟩ = some (.int .i64 0) := by rw [cell_of_row w5 _ 2 _ _ _ hg5]; rfl
    have k3 : w5.cell? ⟨w.heap.size, 3, none⟩ = some (.int .i64 0) := by rw [cell_of_row w5 _ 3 _ _ _ hg5]; rfl
    refine bodyPost_ret (v := .tuple #[.agg #[.int .i64 0, .int .i64 0, .int .i64 0, .int .i64 0], .bool false]) (by simp [results, Try.results50, go_sem, k0, k1, k2, k3]) rfl ⟨rfl, ?_⟩
    exact (below2 HB.out hb).trans (hu5.below (Nat.le_refl _))
  | some i =>
    obtain ⟨hi, -, -⟩ := look_some hl
    have hp : peekL c L = (L[i], true) := by simp only [peekL, hl, getD_at hi]
    rw [show fnd c L = i by simp [fnd, hl]] at HC
    rw [hp]
    obtain ⟨n, hn⟩ : ∃ n, L.length = n := ⟨_, rfl⟩
    obtain ⟨⟨z1, z2, z3, z4⟩, hei⟩ : ∃ ei : Ent, L[i] = ei := ⟨_, rfl⟩
    have hin : i < n := by omega
    have hn9 : n ≤ 100000 := by omega
    rw [hei]
    have RD : Hid (∀ w1, Below W.heap.size W w1 → ∃ A cp ab ao, A = some ⟨ab, ao, none⟩ ∧ w1.cell? ⟨b, 1, none⟩ = some (.slice A n cp) ∧ w1.cell? ⟨ab, ao + i * 4, none⟩ = some (.int .i64 z1) ∧ w1.cell? ⟨ab, ao + i * 4 + 1, none⟩ = some (.int .i64 z2) ∧ w1.cell? ⟨ab, ao + i * 4 + 2, none⟩ = some (.int .i64 z3) ∧ w1.cell? ⟨ab, ao + i * 4 + 3, none⟩ = some (.int .i64 z4)) := Lib.hid fun w1 hb1 => by
      have H1 := HH.out.below hb1
      obtain ⟨A, cp, hvv, hr, hA, _⟩ := H1.rd
      obtain ⟨ab, ao, hAe, q0, q1, q2, q3⟩ := ent_at hr i hi hi _ hei
      have hc := H1.cell.2.1
      rw [hvv, hn] at hc
      exact ⟨A, cp, ab, ao, hAe, hc, q0, q1, q2, q3⟩
    clear hp hl hei hn hi hsm
    unfold aggE
    dsimp only
    go_enter Try.func50, Try.ntmps50
    go_wp2_with fail
    rw [hW.out]
    refine HC.out.mono ?_
    rintro e w1 ⟨rfl, hb⟩
    have h1 := Lib.hid ((hb.block w.heap.size (Array.getElem?_eq_some_iff.1 HW0.out).1).trans HW0.out)
    obtain ⟨A, cp, ab, ao, hAe, q, q0, q1, q2, q3⟩ := RD.out w1 hb
    subst hAe
    have HB1 := Lib.hid hb
    clear hb
    go_wp2_with (refine wpList_store_blk rfl 77 (.tmp 4) (.tmp 19) rfl w.heap.size 0 rfl 77 _ (.agg #[.int .i64 z1, .int .i64 z2, .int .i64 z3, .int .i64 z4]) rfl h1.out (by kernel_rfl) (by simp [Value.cells]) (by simp [Value.cells, Value.oneCell']) _ rfl ?_; intro w5 hg5 hu5)
    have k0 : w5.cell? ⟨w.heap.size, 0, none⟩ = some (.int .i64 z1) := by rw [cell_of_row w5 _ 0 _ _ _ hg5]; rfl
    have k1 : w5.cell? ⟨w.heap.size, 1, none⟩ = some (.int .i64 z2) := by rw [cell_of_row w5 _ 1 _ _ _ hg5]; rfl
    have k2 : w5.cell? ⟨w.heap.size, 2, none⟩ = some (.int .i64 z3) := by rw [cell_of_row w5 _ 2 _ _ _ hg5]; rfl
    have k3 : w5.cell? ⟨w.heap.size, 3, none⟩ = some (.int .i64 z4) := by rw [cell_of_row w5 _ 3 _ _ _ hg5]; rfl
    refine bodyPost_ret (v := .tuple #[.agg #[.int .i64 z1, .int .i64 z2, .int .i64 z3, .int .i64 z4], .bool true]) (by simp [results, Try.results50, go_sem, k0, k1, k2, k3]) rfl ⟨rfl, ?_⟩
    exact (below2 HB.out HB1.out).trans (hu5.below (Nat.le_refl _))
end Go.Proofs.Ytbdcgfdchkbcnaa.Ca

/- the document's cache: Get, Same; plain. -/
import Derived.Test.YtbdcgfdchkbcnaaCaV
namespace Go.Proofs.Ytbdcgfdchkbcnaa.Ca
open Go.RowKit Go.Proofs.Ytbdcgfdchkbcnaa.L Go.Proofs.Ytbdcgfdchkbcnaa.O Go.Proofs.Ytbdcgfdchkbcnaa.R Go.Proofs.Ytbdcgfdchkbcnaa.A Go.Proofs.Ytbdcgfdchkbcnaa.S Go.Proofs.Ytbdcgfdchkbcnaa.T Go.Proofs.Ytbdcgfdchkbcnaa.C Go.Proofs.Ytbdcgfdchkbcnaa.G Go.Proofs.Ytbdcgfdchkbcnaa.E Go.Proofs.Ytbdcgfdchkbcnaa.F
set_option linter.unusedVariables false
set_option linter.unusedSimpArgs false

theorem de_eq' (d : Nat) (a b c f : Int) (w : World) : (Op.equalIn (d + 4) 94 (.agg #[.int .i64 a, .int .i64 b, .int .i64 c, .int .i64 f]) (.agg #[.int .i64 a, .int .i64 b, .int .i64 c, .int .i64 f])).run Try.prog w = .ok true w := by
  have hp : Try.prog.stoodInHeld 94 = false := by kernel_rfl
  have hf : Try.prog.underlying 94 = some (.struct (Try.prog.fieldsOf 94)) := by kernel_rfl
  rw [run_equalIn_agg w _ _ _ _ hf hp]
  clear hf hp
  go_simp
theorem de_eq (a b c f : Int) (w : World) : (Op.equalIn 10000 94 (.agg #[.int .i64 a, .int .i64 b, .int .i64 c, .int .i64 f]) (.agg #[.int .i64 a, .int .i64 b, .int .i64 c, .int .i64 f])).run Try.prog w = .ok true w := de_eq' 9996 a b c f w
theorem de_guard : Try.prog.eqGuardType Try.prog.depth 94 = false := by kernel_rfl
set_option maxHeartbeats 4000000 in
set_option maxRecDepth 100000 in
theorem same_ents (A A' : Option Addr) (n c c' : Nat) (L : List Ent) (w : World) (h : RdE w A n 4 (L.map encE)) (h' : RdE w A' n 4 (L.map encE)) : Calls Try.prog 61 #[.slice A n c, .slice A' n c'] w fun e w' => e = .returned (.bool true) ∧ Below w.heap.size w w' := by
  have hn9 := h.2.1
  have H := Lib.hid h
  have H' := Lib.hid h'
  have HN : Hid (L.length = n) := Lib.hid (by have := h.1; simpa using this)
  have hg := de_guard
  clear h h'
  go_enter Try.func61, Try.ntmps61
  go_wp2
  go_loopw [5] (fun i wr => ∃ k : Nat, k ≤ n ∧ i = .int .i64 k ∧ Below w.heap.size w wr) (fun i _ => n - (intOf i).toNat)
  case atStart => exact ⟨0, by omega, rfl, Below.refl _ _⟩
  case round =>
    obtain ⟨k, hk, rfl, hb⟩ := hrel
    by_cases hlt : k < n
    · have hkl : k < L.length := by have := HN.out; omega
      obtain ⟨⟨x1, x2, x3, x4⟩, hx⟩ : ∃ x : Ent, Hid (L[k] = x) := ⟨_, Lib.hid rfl⟩
      obtain ⟨ab, ao, hAe, c0, c1, c2, c3⟩ := ent_at (H.out.below hb) k hlt hkl _ hx.out
      obtain ⟨ab2, ao2, hAe2, d0, d1, d2, d3⟩ := ent_at (H'.out.below hb) k hlt hkl _ hx.out
      subst hAe
      subst hAe2
      dsimp only at c0 c1 c2 c3 d0 d1 d2 d3
      have heq := de_eq x1 x2 x3 x4
      have HB := Lib.hid hb
      clear hb
      go_wp2_with fail
      go_quiet (fail)
      go_wp2
      go_roundw
      case rel => exact ⟨k + 1, by omega, by go_num, below2 HB.out (below_drewN _ _)⟩
      case measure => simp [intOf]; omega
    · go_wp2
      go_ret
      exact ⟨rfl, hb⟩
set_option maxHeartbeats 4000000 in
set_option maxRecDepth 100000 in
theorem plain_ents (A : Option Addr) (n c : Nat) (L : List Ent) (w : World) (h : RdE w A n 4 (L.map encE)) (hsm : n ≤ 100000) : Calls Try.prog 62 #[.slice A n c] w fun e w' => ∃ v, e = .returned v ∧ w'.ownsRow w.heap.size DE 4 v n (L.flatMap encE) ∧ Below w.heap.size w w' := by
  have H := Lib.hid h
  have HN : Hid (L.length = n) := Lib.hid (by have := h.1; simpa using this)
  clear h
  go_enter Try.func62, Try.ntmps62
  go_wp2
  go_loopw [3, 8] (fun v i wr => ∃ k : Nat, k ≤ n ∧ i = .int .i64 k ∧ wr.ownsRow w.heap.size DE 4 v k ((L.take k).flatMap encE) ∧ Below w.heap.size w wr) (fun _ i _ => n - (intOf i).toNat)
  case atStart => exact ⟨0, by omega, rfl, by simpa using World.ownsRow_nil _ _ _ _, Below.refl _ _⟩
  case round =>
    obtain ⟨k, hk, rfl, ho, hb⟩ := hrel
    by_cases hlt : k < n
    · have hkl : k < L.length := by have := HN.out; omega
      obtain ⟨⟨x1, x2, x3, x4⟩, hx⟩ : ∃ x : Ent, Hid (L[k] = x) := ⟨_, Lib.hid rfl⟩
      obtain ⟨ab, ao, hAe, c0, c1, c2, c3⟩ := ent_at (H.out.below hb) k hlt hkl _ hx.out
      subst hAe
      dsimp only at c0 c1 c2 c3
      have hnx : (L.take (k + 1)).flatMap encE = (L.take k).flatMap encE ++ [.int .i64 x1, .int .i64 x2, .int .i64 x3, .int .i64 x4] := by
        rw [List.take_add_one, List.getElem?_eq_getElem hkl, hx.out, List.flatMap_append]
        rfl
      obtain ⟨A3, c3', rfl⟩ := own_form4 ho
      obtain ⟨W, hW⟩ : ∃ W, Hid ((wr.alloc (.cells #[.int .i64 x1, .int .i64 x2, .int .i64 x3, .int .i64 x4] 77)).alloc (.cells #[.int .i64 x1, .int .i64 x2, .int .i64 x3, .int .i64 x4] DE) = W) := ⟨_, Lib.hid rfl⟩
      have hbW : Below wr.heap.size wr W := by rw [← hW.out]; exact below2 (below_alloc _ _) (below_alloc _ _)
      have g1 : W.heap[wr.heap.size + 1]? = some (.cells #[.int .i64 x1, .int .i64 x2, .int .i64 x3, .int .i64 x4] DE (0, 0)) := by
        rw [← hW.out]
        have := heap_alloc_new (wr.alloc (.cells #[.int .i64 x1, .int .i64 x2, .int .i64 x3, .int .i64 x4] 77)) (.cells #[.int .i64 x1, .int .i64 x2, .int .i64 x3, .int .i64 x4] DE)
        rw [World.size_alloc] at this
        exact this
      have HO := Lib.hid (own_kept ho hbW)
      have HB := Lib.hid (below2 hb hbW)
      have HL := Lib.hid (lies_block g1)
      have HNX := Lib.hid hnx
      have HWS : Hid (w.heap.size ≤ W.heap.size) := Lib.hid (Nat.le_trans hb.size hbW.size)
      have hbs := Lib.hid hb.size
      clear ho hb hbW g1 hnx
      obtain ⟨F, hF⟩ : ∃ F, (L.take k).flatMap encE = F := ⟨_, rfl⟩
      rw [hF] at HO HNX
      go_wp2_with (first | (at_builtin; rw [hW.out]; refine wpList_append_src _ rfl (.tmp 12) (.tmp 14) w.heap.size 90 DE (.agg #[.int .i64 0, .int .i64 0, .int .i64 0, .int .i64 0]) 4 32 rfl (by kernel_rfl) (by kernel_rfl) rfl (by decide) (by decide) _ k F rfl (own_len HO.out rfl ▸ HO.out) (some ⟨wr.heap.size + 1, 0, none⟩) 1 1 rfl (fun h => by cases h) [.int .i64 x1, .int .i64 x2, .int .i64 x3, .int .i64 x4] rfl HL.out (by simp [Value.oneCell']) (by omega) HWS.out ?_; intro v1 w2 ho1 hg1 hv1))
      go_roundw
      case rel => exact ⟨k + 1, by omega, by go_num, by rw [HNX.out]; exact ho1, HB.out.trans (below_next HO.out HWS.out hg1)⟩
      case measure => simp [intOf]; omega
    · obtain rfl : k = n := by omega
      rw [List.take_of_length_le (by rw [HN.out]; exact Nat.le_refl _)] at ho
      go_wp2
      go_ret
      exact ⟨_, rfl, ho, hb⟩
end Go.Proofs.Ytbdcgfdchkbcnaa.Ca

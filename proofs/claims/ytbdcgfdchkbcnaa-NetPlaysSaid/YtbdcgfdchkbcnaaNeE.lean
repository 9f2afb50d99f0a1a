/- net: Send. -/
import Derived.Test.YtbdcgfdchkbcnaaNeD
import Derived.Test.YtbdcgfdchkbcnaaD
import Derived.Deep.LoopGhost
namespace Go.Proofs.Ytbdcgfdchkbcnaa.Ne
open Go.RowKit Go.Proofs.Ytbdcgfdchkbcnaa.L Go.Proofs.Ytbdcgfdchkbcnaa.R Go.Proofs.Ytbdcgfdchkbcnaa.A Go.Proofs.Ytbdcgfdchkbcnaa.S Go.Proofs.Ytbdcgfdchkbcnaa.T Go.Proofs.Ytbdcgfdchkbcnaa.C Go.Proofs.Ytbdcgfdchkbcnaa.G Go.Proofs.Ytbdcgfdchkbcnaa.E
set_option linter.unusedVariables false
set_option linter.unusedSimpArgs false

structure Pkt where
  a : Int
  b : Int
  s : ByteArray
  q : Bool
def encP (p : Pkt) : List Value := [.int .i64 p.a, .int .i64 p.b, .string p.s, .bool p.q]
theorem encP_len (p : Pkt) : (encP p).length = 4 := rfl
abbrev PT : TypeId := 29
theorem pkt_at {w : World} {A : Option Addr} {n : Nat} {L : List Pkt} (h : RdE w A n 4 (L.map encP)) (k : Nat) (hk : k < n) (hl : k < L.length) (x : Pkt) (hx : L[k] = x) :
    ∃ b o, A = some ⟨b, o, none⟩ ∧ w.cell? ⟨b, o + k * 4, none⟩ = some (.int .i64 x.a) ∧ w.cell? ⟨b, o + k * 4 + 1, none⟩ = some (.int .i64 x.b) ∧ w.cell? ⟨b, o + k * 4 + 2, none⟩ = some (.string x.s) ∧ w.cell? ⟨b, o + k * 4 + 3, none⟩ = some (.bool x.q) := by
  obtain ⟨b, o, hA, hl', hc⟩ := h.at k hk
  subst hx
  exact ⟨b, o, hA, hc 0 (by decide), hc 1 (by decide), hc 2 (by decide), hc 3 (by decide)⟩
theorem pk_cells {W : World} {g : Nat} {a b : Int} {s : ByteArray} {q : Bool} (h : W.heap[g]? = some (.cells #[.int .i64 a, .int .i64 b, .string s, .bool q] PT (0, 0))) : W.cell? ⟨g, 0, none⟩ = some (.int .i64 a) ∧ W.cell? ⟨g, 1, none⟩ = some (.int .i64 b) ∧ W.cell? ⟨g, 2, none⟩ = some (.string s) ∧ W.cell? ⟨g, 3, none⟩ = some (.bool q) := by
  refine ⟨?_, ?_, ?_, ?_⟩ <;> (rw [cell_of_row W g _ _ _ _ h]; rfl)
set_option maxHeartbeats 2000000 in
theorem send_nil (A : Option Addr) (n c : Nat) (L : List Pkt) (w : World) (h : RdE w A n 4 (L.map encP)) : Calls Try.prog 17 #[.pointer none, .slice A n c] w fun e w' => e = .returned (.int .i64 n) ∧ Below w.heap.size w w' := by
  have hn9 := h.2.1
  have H := Lib.hid h
  have HN : Hid (L.length = n) := Lib.hid (by have := h.1; simpa using this)
  clear h
  go_enter Try.func17, Try.ntmps17
  go_wp2
  go_loopw [5, 10] (fun u i wr => ∃ k : Nat, k ≤ n ∧ i = .int .i64 k ∧ u = .int .i64 k ∧ Below w.heap.size w wr) (fun _ i _ => n - (intOf i).toNat)
  case atStart => exact ⟨0, by omega, rfl, rfl, Below.refl _ _⟩
  case round =>
    obtain ⟨k, hk, rfl, rfl, hb⟩ := hrel
    by_cases hlt : k < n
    · have hkl : k < L.length := by have := HN.out; omega
      obtain ⟨⟨x1, x2, x3, x4⟩, hx⟩ : ∃ x : Pkt, Hid (L[k] = x) := ⟨_, Lib.hid rfl⟩
      obtain ⟨ab, ao, hAe, c0, c1, c2, c3⟩ := pkt_at (H.out.below hb) k hlt hkl _ hx.out
      subst hAe
      dsimp only at c0 c1 c2 c3
      have HB := Lib.hid (below2 hb (below_alloc wr (.cells #[.int .i64 x1, .int .i64 x2, .string x3, .bool x4] PT)))
      clear hb
      go_wp2_with fail
      go_quiet (fail)
      go_wp2
      go_roundw
      case rel => exact ⟨k + 1, by omega, by go_num, by go_num, below2 HB.out (below_drewN _ _)⟩
      case measure => simp [intOf]; omega
    · obtain rfl : k = n := by omega
      go_wp2
      go_ret
      exact ⟨rfl, hb⟩
end Go.Proofs.Ytbdcgfdchkbcnaa.Ne

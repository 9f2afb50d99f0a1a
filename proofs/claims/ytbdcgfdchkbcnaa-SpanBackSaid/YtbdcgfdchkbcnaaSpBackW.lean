/- SpanBack, at its arguments' shape. -/
import Derived.Test.YtbdcgfdchkbcnaaSpE
namespace Go.Proofs.Ytbdcgfdchkbcnaa.Sp
open Go.RowKit Go.Proofs.Ytbdcgfdchkbcnaa.L
theorem u8_nat {n : Int} (h : (Lit.int .u8 n).wf = true) : ∃ k : Nat, n = (k : Int) ∧ k < 256 := by
  have := bounds_u8 h
  exact ⟨n.toNat, by omega, by omega⟩
theorem back_row (w : World) (a b c : Int) (ha : (Lit.int .u8 a).wf = true) (hb : (Lit.int .u8 b).wf = true) (hc : (Lit.int .u8 c).wf = true) :
    Calls Try.prog 7 #[.int .u8 a, .int .u8 b, .int .u8 c] w fun e w' => e = .returned (.bool true) ∧ Below w.heap.size w w' := by
  obtain ⟨f, rfl, hf⟩ := u8_nat ha
  obtain ⟨t, rfl, ht⟩ := u8_nat hb
  obtain ⟨m, rfl, hm⟩ := u8_nat hc
  exact back_walk w f t m hf ht hm
end Go.Proofs.Ytbdcgfdchkbcnaa.Sp

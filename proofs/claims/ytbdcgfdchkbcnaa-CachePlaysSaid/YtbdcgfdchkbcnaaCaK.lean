/- cache: the laws' arguments. -/
import Derived.Test.YtbdcgfdchkbcnaaCaJ
namespace Go.Proofs.Ytbdcgfdchkbcnaa.Ca
open Go.RowKit Go.Proofs.Ytbdcgfdchkbcnaa.L Go.Proofs.Ytbdcgfdchkbcnaa.O Go.Proofs.Ytbdcgfdchkbcnaa.R Go.Proofs.Ytbdcgfdchkbcnaa.A Go.Proofs.Ytbdcgfdchkbcnaa.S Go.Proofs.Ytbdcgfdchkbcnaa.T Go.Proofs.Ytbdcgfdchkbcnaa.C Go.Proofs.Ytbdcgfdchkbcnaa.G Go.Proofs.Ytbdcgfdchkbcnaa.E Go.Proofs.Ytbdcgfdchkbcnaa.F
set_option linter.unusedVariables false
set_option linter.unusedSimpArgs false

def rng (x : Int) : Prop := -9223372036854775808 ≤ x ∧ x ≤ 9223372036854775807
def goodE (e : Ent) : Prop := rng e.1 ∧ rng e.2.1 ∧ rng e.2.2.1 ∧ rng e.2.2.2
set_option maxRecDepth 100000 in
theorem opens_ent (W : World) : Opens Try.prog W 77 encE goodE :=
  Opens.as (opens_struct (w := W) Try.underlying77 (by kernel_rfl) (opens_fc (off' := 1) rfl (by kernel_rfl) (opens_int Try.underlying3) (opens_fc (off' := 2) rfl (by kernel_rfl) (opens_int Try.underlying3) (opens_fc (off' := 3) rfl (by kernel_rfl) (opens_int Try.underlying3) (opens_fc (off' := 4) rfl (by kernel_rfl) (opens_int Try.underlying3) (opens_f0 4))))))
    encE goodE (fun x => (x.1, x.2.1, x.2.2.1, x.2.2.2.1)) (fun _ => rfl) (fun _ h => ⟨i64_range h.1, i64_range h.2.1, i64_range h.2.2.1, i64_range h.2.2.2.1⟩)
theorem none_row (w : World) (x : Ent) (h : goodE x) : Calls Try.prog 14 #[.agg (encE x).toArray] w fun e w' => e = .returned (.bool true) ∧ Below w.heap.size w w' := none_walk w x
/-- an operation of the script. -/
structure OpR where
  k : Int
  c : Int
  x : Int
  L : Sl Ent
  C : Sl Int
def encOp (o : OpR) : List Value := [.int .i64 o.k, .int .i64 o.c, .int .i64 o.x, .slice o.L.A o.L.n o.L.c, .slice o.C.A o.C.n o.C.c]
def goodOp (w : World) (o : OpR) : Prop := SlOk w 4 32 encE goodE o.L ∧ SlOk w 1 8 intE intG o.C
set_option maxRecDepth 100000 in
theorem opens_op (W : World) : Opens Try.prog W 86 encOp (goodOp W) :=
  Opens.as (opens_struct (w := W) Try.underlying86 (by kernel_rfl)
      (opens_fc (off' := 1) rfl (by kernel_rfl) (opens_int Try.underlying3) (opens_fc (off' := 2) rfl (by kernel_rfl) (opens_int Try.underlying3) (opens_fc (off' := 3) rfl (by kernel_rfl) (opens_int Try.underlying3)
        (opens_fc (off' := 4) rfl (by kernel_rfl) (opens_slice (sz := 4) (by_ := 32) (enc := encE) (good := goodE) Try.underlying80 (by kernel_rfl) (by omega) (by kernel_rfl) (opens_ent W))
        (opens_fc (off' := 5) rfl (by kernel_rfl) (opens_slice (sz := 1) (by_ := 8) (enc := intE) (good := intG) Try.underlying62 (by kernel_rfl) (by omega) (by kernel_rfl) (opens_int Try.underlying3)) (opens_f0 5)))))))
    encOp (goodOp W) (fun x => ⟨x.1, x.2.1, x.2.2.1, x.2.2.2.1, x.2.2.2.2.1⟩) (fun _ => rfl) (fun _ h => ⟨h.2.2.2.1, h.2.2.2.2.1⟩)
theorem opens_ops (W : World) : Opens Try.prog W 83 (fun s : Sl OpR => [.slice s.A s.n s.c]) (SlOk W 5 72 encOp (goodOp W)) :=
  opens_slice Try.underlying83 (by kernel_rfl) (by omega) (by kernel_rfl) (opens_op W)
/-- the script: each operation, and its lists, are read. -/
structure Script (w : World) (A : Option Addr) (n : Nat) (ops : List OpR) : Prop where
  rd : RdE w A n 5 (ops.map encOp)
  ls : ∀ o ∈ ops, RdE w o.L.A o.L.n 4 (o.L.xs.map encE) ∧ Rd w o.C.A o.C.n (o.C.xs.map (Value.int .i64)) ∧ (0 < o.L.n → ∀ p, o.L.A = some p → p.block < w.heap.size) ∧ (0 < o.C.n → ∀ p, o.C.A = some p → p.block < w.heap.size)
theorem Script.len {w : World} {A : Option Addr} {n : Nat} {ops : List OpR} (h : Script w A n ops) : ops.length = n := by simpa using h.rd.1
theorem Script.below {w w1 : World} {A : Option Addr} {n : Nat} {ops : List OpR} (h : Script w A n ops) (hb : Below w.heap.size w w1) : Script w1 A n ops :=
  ⟨h.rd.below hb, fun o ho => ⟨(h.ls o ho).1.below hb, (h.ls o ho).2.1.below hb, fun h0 p hp => Nat.lt_of_lt_of_le ((h.ls o ho).2.2.1 h0 p hp) hb.size, fun h0 p hp => Nat.lt_of_lt_of_le ((h.ls o ho).2.2.2 h0 p hp) hb.size⟩⟩
theorem script_of {w : World} {s : Sl OpR} (h : SlOk w 5 72 encOp (goodOp w) s) : Script w s.A s.n s.xs :=
  ⟨rdE_of h, fun o ho => by
    obtain ⟨h1, h2⟩ := (h.2.2.2.2.2.1 o ho).1
    have r1 := rdE_of h1
    have r2 := ints_rd h2
    exact ⟨r1, r2, fun h0 => r1.lt (by decide) h0, fun h0 => rd_lt r2 h0⟩⟩
theorem Script.at {w : World} {A : Option Addr} {n : Nat} {ops : List OpR} (h : Script w A n ops) (k : Nat) (hk : k < n) (hl : k < ops.length) (o : OpR) (ho : ops[k] = o) :
    ∃ b f, A = some ⟨b, f, none⟩ ∧ w.cell? ⟨b, f + k * 5, none⟩ = some (.int .i64 o.k) ∧ w.cell? ⟨b, f + k * 5 + 1, none⟩ = some (.int .i64 o.c) ∧ w.cell? ⟨b, f + k * 5 + 2, none⟩ = some (.int .i64 o.x) ∧ w.cell? ⟨b, f + k * 5 + 3, none⟩ = some (.slice o.L.A o.L.n o.L.c) ∧ w.cell? ⟨b, f + k * 5 + 4, none⟩ = some (.slice o.C.A o.C.n o.C.c) := by
  obtain ⟨b, f, hA, hl', hc⟩ := h.rd.at k hk
  subst ho
  exact ⟨b, f, hA, hc 0 (by decide), hc 1 (by decide), hc 2 (by decide), hc 3 (by decide), hc 4 (by decide)⟩
end Go.Proofs.Ytbdcgfdchkbcnaa.Ca

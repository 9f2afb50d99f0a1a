/- operations as a law's argument; more than is played? -/
import Derived.Test.YtljdiaokjocfpaaLsH
import Derived.Test.YtljdiaokjocfpaaLsJ
namespace Go.Proofs.Ytljdiaokjocfpaa.Ls
open Go.RowKit Go.Proofs.Ytljdiaokjocfpaa.L Go.Proofs.Ytljdiaokjocfpaa.O Go.Proofs.Ytljdiaokjocfpaa.A Go.Proofs.Ytljdiaokjocfpaa.R Go.Proofs.Ytljdiaokjocfpaa.S Go.Proofs.Ytljdiaokjocfpaa.T
set_option linter.unusedVariables false
set_option linter.unusedSimpArgs false

/-- n elements of sz cells each, that are read. -/
def RdE (w : World) (A : Option Addr) (n sz : Nat) (es : List (List Value)) : Prop :=
  es.length = n ∧ n ≤ 9223372036854775807 ∧ (∀ e ∈ es, e.length = sz) ∧ (0 < n → ∃ b o, A = some ⟨b, o, none⟩ ∧ ∀ i, i < n → ∀ j, j < sz → w.cell? ⟨b, o + i * sz + j, none⟩ = (es[i]?).bind fun e => e[j]?)
theorem RdE.below {w w1 : World} {A : Option Addr} {n sz : Nat} {es : List (List Value)} (h : RdE w A n sz es) (hb : Below w.heap.size w w1) : RdE w1 A n sz es :=
  ⟨h.1, h.2.1, h.2.2.1, fun hn => by
    obtain ⟨b, o, e, hc⟩ := h.2.2.2 hn
    refine ⟨b, o, e, fun i hi j hj => ?_⟩
    have h0 := hc i hi j hj
    have hx : i < es.length := by have := h.1; omega
    have hl := h.2.2.1 _ (List.getElem_mem hx)
    rw [List.getElem?_eq_getElem hx, Option.bind_some, List.getElem?_eq_getElem (by omega)] at h0 ⊢
    exact (hb.cell (World.block_lt_of_cell? w _ h0)).trans h0⟩
theorem rdE_of {α : Type} {w : World} {sz by_ : Nat} {enc : α → List Value} {good : α → Prop} {s : Sl α} (h : SlOk w sz by_ enc good s) : RdE w s.A s.n sz (s.xs.map enc) := by
  obtain ⟨h1, h2, h3, h4, h5, h6, h7⟩ := h
  refine ⟨by simp [h1], by omega, ?_, fun h0 => ?_⟩
  · intro e he
    obtain ⟨a, ha, rfl⟩ := List.mem_map.1 he
    exact (h6 a ha).2
  · obtain ⟨b, o, hA, hc⟩ := h7 h0
    refine ⟨b, o, hA, fun i hi j hj => ?_⟩
    rw [Nat.add_assoc, hc i hi j hj, List.getElem?_map, Option.bind_map]
    rfl
def intE : Int → List Value := fun n => [.int .i64 n]
def intG : Int → Prop := fun n => (Lit.int .i64 n).wf = true
theorem ints_rd {w : World} {s : Sl Int} (h : SlOk w 1 8 intE intG s) : Rd w s.A s.n (s.xs.map (Value.int .i64)) := by
  obtain ⟨h1, h2, h3, h4, h5, h6, h7⟩ := h
  refine ⟨by simp [h1], by omega, fun h0 => ?_⟩
  obtain ⟨b, o, hA, hc⟩ := h7 h0
  refine ⟨b, o, hA, fun j hj => ?_⟩
  have := hc j hj 0 (by omega)
  rw [show j * 1 + 0 = j by omega] at this
  rw [this, List.getElem?_map]
  have hjl : j < s.xs.length := by omega
  rw [List.getElem?_eq_getElem hjl]
  rfl
structure OpR where
  k : Int
  n : Int
  a : Int
  b : Int
  c : Int
  L : Sl Int
def encOp (x : OpR) : List Value := [.int .i64 x.k, .int .i64 x.n, .int .i64 x.a, .int .i64 x.b, .int .i64 x.c, .slice x.L.A x.L.n x.L.c]
def goodOp (w : World) (x : OpR) : Prop := SlOk w 1 8 intE intG x.L
theorem opens_op (W : World) : Opens Try.prog W 65 encOp (goodOp W) :=
  Opens.as (opens_struct (w := W) Try.underlying65 (by kernel_rfl)
      (opens_fc (off' := 1) rfl (by kernel_rfl) (opens_int Try.underlying3) (opens_fc (off' := 2) rfl (by kernel_rfl) (opens_int Try.underlying3) (opens_fc (off' := 5) rfl (by kernel_rfl) (opens_td W)
        (opens_fc (off' := 6) rfl (by kernel_rfl) (opens_slice (sz := 1) (by_ := 8) (enc := intE) (good := intG) Try.underlying35 (by kernel_rfl) (by omega) (by kernel_rfl) (opens_int Try.underlying3)) (opens_f0 6))))))
    encOp (goodOp W) (fun x => ⟨x.1, x.2.1, x.2.2.1.a, x.2.2.1.b, x.2.2.1.c, x.2.2.2.1⟩) (fun _ => rfl) (fun _ h => h.2.2.2.1)
theorem opens_ops (W : World) : Opens Try.prog W 62 (fun s : Sl OpR => [.slice s.A s.n s.c]) (SlOk W 6 64 encOp (goodOp W)) :=
  opens_slice Try.underlying62 (by kernel_rfl) (by omega) (by kernel_rfl) (opens_op W)
/-- the script: each operation, and its list, is read. -/
structure Script (w : World) (A : Option Addr) (n : Nat) (ops : List OpR) : Prop where
  rd : RdE w A n 6 (ops.map encOp)
  ls : ∀ o ∈ ops, Rd w o.L.A o.L.n (o.L.xs.map (Value.int .i64)) ∧ (∀ x ∈ o.L.xs, -9223372036854775808 ≤ x ∧ x ≤ 9223372036854775807) ∧ (0 < o.L.n → ∀ p, o.L.A = some p → p.block < w.heap.size)
theorem Script.len {w : World} {A : Option Addr} {n : Nat} {ops : List OpR} (h : Script w A n ops) : ops.length = n := by simpa using h.rd.1
theorem Script.below {w w1 : World} {A : Option Addr} {n : Nat} {ops : List OpR} (h : Script w A n ops) (hb : Below w.heap.size w w1) : Script w1 A n ops :=
  ⟨h.rd.below hb, fun o ho => ⟨(h.ls o ho).1.below hb, (h.ls o ho).2.1, fun h0 p hp => Nat.lt_of_lt_of_le ((h.ls o ho).2.2 h0 p hp) hb.size⟩⟩
theorem rd_lt {w : World} {A : Option Addr} {n : Nat} {xs : List Value} (h : Rd w A n xs) (h0 : 0 < n) : ∀ o, A = some o → o.block < w.heap.size := by
  intro o ho
  obtain ⟨b, o', e, hc⟩ := h.2.2 h0
  have h1 := hc 0 h0
  rw [List.getElem?_eq_getElem (by rw [h.len]; exact h0)] at h1
  have := World.block_lt_of_cell? w _ h1
  rw [e] at ho
  cases ho
  exact this
theorem script_of {w : World} {s : Sl OpR} (h : SlOk w 6 64 encOp (goodOp w) s) : Script w s.A s.n s.xs :=
  ⟨rdE_of h, fun o ho => by
    have hg : SlOk w 1 8 intE intG o.L := (h.2.2.2.2.2.1 o ho).1
    have hr := ints_rd hg
    exact ⟨hr, fun x hx => bounds_i64 (hg.2.2.2.2.2.1 x hx).1, fun h0 p hp => rd_lt hr h0 p hp⟩⟩
theorem Script.at {w : World} {A : Option Addr} {n : Nat} {ops : List OpR} (h : Script w A n ops) (i : Nat) (hi : i < n) : ∃ b o x, A = some ⟨b, o, none⟩ ∧ (∃ hl : i < ops.length, ops[i] = x) ∧ b < w.heap.size ∧
    w.cell? ⟨b, o + i * 6, none⟩ = some (.int .i64 x.k) ∧ w.cell? ⟨b, o + i * 6 + 1, none⟩ = some (.int .i64 x.n) ∧ w.cell? ⟨b, o + i * 6 + 2, none⟩ = some (.int .i64 x.a) ∧ w.cell? ⟨b, o + i * 6 + 3, none⟩ = some (.int .i64 x.b) ∧
    w.cell? ⟨b, o + i * 6 + 4, none⟩ = some (.int .i64 x.c) ∧ w.cell? ⟨b, o + i * 6 + 5, none⟩ = some (.slice x.L.A x.L.n x.L.c) := by
  obtain ⟨b, o, hA, hc⟩ := h.rd.2.2.2 (by omega)
  have hl : i < ops.length := by rw [h.len]; exact hi
  have hx : ∀ j, j < 6 → w.cell? ⟨b, o + i * 6 + j, none⟩ = (encOp ops[i])[j]? := fun j hj => by
    rw [hc i hi j hj, List.getElem?_map, List.getElem?_eq_getElem hl]; rfl
  have h0 := hx 0 (by omega)
  exact ⟨b, o, ops[i], hA, ⟨hl, rfl⟩, World.block_lt_of_cell? w _ h0, h0, hx 1 (by omega), hx 2 (by omega), hx 3 (by omega), hx 4 (by omega), hx 5 (by omega)⟩
def greatB (ops : List OpR) : Bool := decide (150 < ops.length) || ops.any fun o => decide (40 < o.L.n)
set_option maxHeartbeats 1000000 in
theorem great_any (w : World) (A : Option Addr) (n c : Nat) (ops : List OpR) (h : Script w A n ops) (r : Bool) (hr' : greatB ops = r) :
    Calls Try.prog 32 #[.slice A n c] w fun e w' => e = .returned (.bool r) ∧ Below w.heap.size w w' := by
  have hln := h.rd.2.1
  have hl := Lib.hid h.len
  have H := Lib.hid h
  have hr := Lib.hid hr'
  clear h hr'
  by_cases hbig : 150 < n
  · have e : Hid (r = true) := Lib.hid (by rw [← hr.out]; simp [greatB, hl.out, hbig])
    go_enter Try.func32, Try.ntmps32
    go_wp2
    go_ret
    exact ⟨retb e.out, Below.refl _ _⟩
  · go_enter Try.func32, Try.ntmps32
    go_wp2
    go_loopw [10] (fun i wr => ∃ k : Nat, k ≤ n ∧ i = .int .i64 k ∧ Below w.heap.size w wr ∧ Hid (∀ j, (h : j < ops.length) → j < k → ops[j].L.n ≤ 40)) (fun i _ => n - (intOf i).toNat)
    case atStart => exact ⟨0, by omega, rfl, Below.refl _ _, Lib.hid fun j _ h => absurd h (by omega)⟩
    case round =>
      obtain ⟨k, hk, rfl, hb, hnot⟩ := hrel
      by_cases hlt : k < n
      · obtain ⟨ab, ao, x, hA, ⟨hkl, hx⟩, hab, c0, c1, c2, c3, c4, c5⟩ := (H.out.below hb).at k hlt
        subst hA
        have hx' := Lib.hid hx
        have hlb : x.L.n ≤ 9223372036854775807 := by have := (H.out.ls x (by rw [← hx]; exact List.getElem_mem _)).1.2.1; exact this
        clear hx
        obtain ⟨xk, xn, xa, xb, xc, ⟨LA, Ln, Lc, Lxs⟩⟩ := x
        dsimp only at c0 c1 c2 c3 c4 c5 hlb
        by_cases hbg : 40 < Ln
        · have e : Hid (r = true) := Lib.hid (by
            rw [← hr.out]
            simp only [greatB, Bool.or_eq_true, List.any_eq_true, decide_eq_true_eq]
            exact .inr ⟨_, List.getElem_mem hkl, by rw [hx'.out]; exact hbg⟩)
          go_wp2
          go_ret
          exact ⟨retb e.out, hb.trans ((below_alloc _ _).mono hb.size)⟩
        · have hstep : Hid (∀ j, (h : j < ops.length) → j < k + 1 → ops[j].L.n ≤ 40) := Lib.hid fun j hj hjk => by
            by_cases e : j = k
            · subst e; rw [hx'.out]; show Ln ≤ 40; omega
            · exact hnot.out j hj (by omega)
          go_wp2
          go_roundw
          case rel => exact ⟨k + 1, by omega, by go_num, hb.trans ((below_alloc _ _).mono hb.size), hstep⟩
          case measure => simp [intOf]; omega
      · have e : Hid (r = false) := Lib.hid (by
          rw [← hr.out]
          simp only [greatB, Bool.or_eq_false_iff, decide_eq_false_iff_not, List.any_eq_false, decide_eq_true_eq]
          refine ⟨by rw [hl.out]; omega, fun o ho => ?_⟩
          obtain ⟨j, hj, rfl⟩ := List.getElem_of_mem ho
          have := hnot.out j hj (by have := hl.out; omega)
          omega)
        go_wp2
        go_ret
        exact ⟨retbf e.out, hb⟩
end Go.Proofs.Ytljdiaokjocfpaa.Ls

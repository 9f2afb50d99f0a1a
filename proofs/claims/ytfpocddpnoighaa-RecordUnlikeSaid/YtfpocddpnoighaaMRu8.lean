/- elements of several cells that are read; lists of numbers as arguments. -/
import Derived.Test.YtfpocddpnoighaaMRu1
import Derived.Test.YtfpocddpnoighaaMRu3
import Derived.Test.YtfpocddpnoighaaMRu4
namespace Go.Proofs.Ytfpocddpnoighaa.E
open Go.RowKit Go.Proofs.Ytfpocddpnoighaa.L Go.Proofs.Ytfpocddpnoighaa.O Go.Proofs.Ytfpocddpnoighaa.A Go.Proofs.Ytfpocddpnoighaa.T
set_option linter.unusedVariables false
set_option linter.unusedSimpArgs false

/-- n elements of sz cells each, that are read. -/
def RdE (w : World) (A : Option Addr) (n sz : Nat) (es : List (List Value)) : Prop :=
  es.length = n ∧ n ≤ 9223372036854775807 ∧ (∀ e ∈ es, e.length = sz) ∧ (0 < n → ∃ b o, A = some ⟨b, o, none⟩ ∧ ∀ i, i < n → ∀ j, j < sz → w.cell? ⟨b, o + i * sz + j, none⟩ = (es[i]?).bind fun e => e[j]?)
theorem RdE.below {w w1 : World} {A : Option Addr} {n sz : Nat} {es : List (List Value)} (h : RdE w A n sz es) (hb : Below w.heap.size w w1) : RdE w1 A n sz es :=
  ⟨h.1, h.2.1, h.2.2.1, fun hn => by
    obtain ⟨b, o, e, hc⟩ := h.2.2.2 hn
    refine ⟨b, o, e, fun i hi j hj => ?_⟩
    have h0 := hc i hi j hj
    have hx : i < es.length := by have := h.1; omega
    have hl := h.2.2.1 _ (List.getElem_mem hx)
    rw [List.getElem?_eq_getElem hx, Option.bind_some, List.getElem?_eq_getElem (by omega)] at h0 ⊢
    exact (hb.cell (World.block_lt_of_cell? w _ h0)).trans h0⟩
theorem rdE_of {α : Type} {w : World} {sz by_ : Nat} {enc : α → List Value} {good : α → Prop} {s : Sl α} (h : SlOk w sz by_ enc good s) : RdE w s.A s.n sz (s.xs.map enc) := by
  obtain ⟨h1, h2, h3, h4, h5, h6, h7⟩ := h
  refine ⟨by simp [h1], by omega, ?_, fun h0 => ?_⟩
  · intro e he
    obtain ⟨a, ha, rfl⟩ := List.mem_map.1 he
    exact (h6 a ha).2
  · obtain ⟨b, o, hA, hc⟩ := h7 h0
    refine ⟨b, o, hA, fun i hi j hj => ?_⟩
    rw [Nat.add_assoc, hc i hi j hj, List.getElem?_map, Option.bind_map]
    rfl
def intE : Int → List Value := fun n => [.int .i64 n]
def intG : Int → Prop := fun n => (Lit.int .i64 n).wf = true
theorem ints_rd {w : World} {s : Sl Int} (h : SlOk w 1 8 intE intG s) : Rd w s.A s.n (s.xs.map (Value.int .i64)) := by
  obtain ⟨h1, h2, h3, h4, h5, h6, h7⟩ := h
  refine ⟨by simp [h1], by omega, fun h0 => ?_⟩
  obtain ⟨b, o, hA, hc⟩ := h7 h0
  refine ⟨b, o, hA, fun j hj => ?_⟩
  have := hc j hj 0 (by omega)
  rw [show j * 1 + 0 = j by omega] at this
  rw [this, List.getElem?_map]
  have hjl : j < s.xs.length := by omega
  rw [List.getElem?_eq_getElem hjl]
  rfl
theorem rd_lt {w : World} {A : Option Addr} {n : Nat} {xs : List Value} (h : Rd w A n xs) (h0 : 0 < n) : ∀ o, A = some o → o.block < w.heap.size := by
  intro o ho
  obtain ⟨b, o', e, hc⟩ := h.2.2 h0
  have h1 := hc 0 h0
  rw [List.getElem?_eq_getElem (by rw [h.len]; exact h0)] at h1
  have := World.block_lt_of_cell? w _ h1
  rw [e] at ho
  cases ho
  exact this
theorem opens_ints (W : World) : Opens Try.prog W 55 (fun s : Sl Int => [.slice s.A s.n s.c]) (SlOk W 1 8 intE intG) :=
  opens_slice (e := 3) (by kernel_rfl) (by kernel_rfl) (by decide) (by kernel_rfl) (opens_int (by kernel_rfl))
theorem i64_range {n : Int} (h : (Lit.int .i64 n).wf = true) : -9223372036854775808 ≤ n ∧ n ≤ 9223372036854775807 := by
  simp [Lit.wf, IntKind.min, IntKind.max, IntKind.signed, IntKind.bits] at h
  omega
/-- numbers below 256. -/
theorem opens_u8s (W : World) : Opens Try.prog W 26 (fun s : Sl Int => [.slice s.A s.n s.c]) (SlOk W 1 1 (fun n : Int => [.int .u8 n]) fun n => (Lit.int .u8 n).wf = true) :=
  opens_slice Try.underlying26 (by kernel_rfl) (by omega) (by kernel_rfl) (opens_int Try.underlying5)
theorem u8_wf {n : Int} (h : (Lit.int .u8 n).wf = true) : 0 ≤ n ∧ n < 256 := by
  have := bounds_u8 h
  omega
theorem u8s_rd {W : World} {s : Sl Int} (h : SlOk W 1 1 (fun n : Int => [.int .u8 n]) (fun n => (Lit.int .u8 n).wf = true) s) : ∃ l : List Nat, Rd W s.A s.n (l.map fun x : Nat => Value.int .u8 (x : Int)) ∧ ∀ x ∈ l, x < 256 := by
  obtain ⟨h1, h2, h3, h4, h5, h6, h7⟩ := h
  have hx : ∀ x ∈ s.xs, 0 ≤ x ∧ x < 256 := fun x hx => u8_wf (h6 x hx).1
  have he : s.xs.map (fun x => ((x.toNat : Nat) : Int)) = s.xs := by
    rw [List.map_congr_left (g := id) fun x hm => by have := hx x hm; simp only [id]; omega]
    simp
  refine ⟨s.xs.map Int.toNat, ⟨by simp [h1], by omega, fun h0 => ?_⟩, ?_⟩
  · obtain ⟨b, o, hA, hc⟩ := h7 h0
    refine ⟨b, o, hA, fun j hj => ?_⟩
    have := hc j hj 0 (by omega)
    rw [show j * 1 + 0 = j by omega] at this
    rw [this]
    have hjl : j < s.xs.length := by omega
    have h0' := (hx _ (List.getElem_mem hjl)).1
    simp [List.getElem?_eq_getElem hjl]
    omega
  · intro x hm
    obtain ⟨y, hy, rfl⟩ := List.mem_map.1 hm
    have := hx y hy
    omega
/-- element i, cell by cell. -/
theorem RdE.at {α : Type} {w : World} {A : Option Addr} {n sz : Nat} {enc : α → List Value} {xs : List α} (h : RdE w A n sz (xs.map enc)) (i : Nat) (hi : i < n) : ∃ b o, A = some ⟨b, o, none⟩ ∧ ∃ hl : i < xs.length, ∀ j, j < sz → w.cell? ⟨b, o + i * sz + j, none⟩ = (enc xs[i])[j]? := by
  obtain ⟨b, o, hA, hc⟩ := h.2.2.2 (by omega)
  have hl : i < xs.length := by have := h.1; simp at this; omega
  refine ⟨b, o, hA, hl, fun j hj => ?_⟩
  rw [hc i hi j hj, List.getElem?_map, List.getElem?_eq_getElem hl]
  rfl
theorem RdE.keep {S : List Nat} {w w1 : World} {A : Option Addr} {n sz : Nat} {es : List (List Value)} (h : RdE w A n sz es) (hb : Keep S w w1) (hs : 0 < n → ∀ o, A = some o → o.block ∉ S) : RdE w1 A n sz es :=
  ⟨h.1, h.2.1, h.2.2.1, fun hn => by
    obtain ⟨b, o, e, hc⟩ := h.2.2.2 hn
    refine ⟨b, o, e, fun i hi j hj => ?_⟩
    have h0 := hc i hi j hj
    have hx : i < es.length := by have := h.1; omega
    have hl := h.2.2.1 _ (List.getElem_mem hx)
    rw [List.getElem?_eq_getElem hx, Option.bind_some, List.getElem?_eq_getElem (by omega)] at h0 ⊢
    exact (hb.cell (World.block_lt_of_cell? w _ h0) (hs hn ⟨b, o, none⟩ e)).trans h0⟩
theorem RdE.lt {w : World} {A : Option Addr} {n sz : Nat} {es : List (List Value)} (h : RdE w A n sz es) (hz : 0 < sz) (h0 : 0 < n) : ∀ o, A = some o → o.block < w.heap.size := by
  intro o ho
  obtain ⟨b, o', e, hc⟩ := h.2.2.2 h0
  have h1 := hc 0 h0 0 hz
  have hx : 0 < es.length := by have := h.1; omega
  have hl := h.2.2.1 _ (List.getElem_mem hx)
  rw [List.getElem?_eq_getElem hx, Option.bind_some, List.getElem?_eq_getElem (by omega)] at h1
  have := World.block_lt_of_cell? w _ h1
  rw [e] at ho
  cases ho
  exact this
end Go.Proofs.Ytfpocddpnoighaa.E

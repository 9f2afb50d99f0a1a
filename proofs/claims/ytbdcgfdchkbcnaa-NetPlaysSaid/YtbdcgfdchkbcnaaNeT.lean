/- net: the document's Double, Take. -/
import Derived.Test.YtbdcgfdchkbcnaaNeS
namespace Go.Proofs.Ytbdcgfdchkbcnaa.Ne
open Go.RowKit Go.Proofs.Ytbdcgfdchkbcnaa.L Go.Proofs.Ytbdcgfdchkbcnaa.O Go.Proofs.Ytbdcgfdchkbcnaa.R Go.Proofs.Ytbdcgfdchkbcnaa.A Go.Proofs.Ytbdcgfdchkbcnaa.S Go.Proofs.Ytbdcgfdchkbcnaa.T Go.Proofs.Ytbdcgfdchkbcnaa.C Go.Proofs.Ytbdcgfdchkbcnaa.G Go.Proofs.Ytbdcgfdchkbcnaa.E
set_option linter.unusedVariables false
set_option linter.unusedSimpArgs false

/-- all memory that was there ahead of B, but block b, stays. -/
structure Lo (B b : Nat) (u v : World) : Prop where
  os : v.os = u.os
  tape : v.tape = u.tape
  output : v.output = u.output
  size : u.heap.size ≤ v.heap.size
  block : ∀ k, k < B → k ≠ b → v.heap[k]? = u.heap[k]?
theorem Lo.refl (B b : Nat) (u : World) : Lo B b u u := ⟨rfl, rfl, rfl, Nat.le_refl _, fun _ _ _ => rfl⟩
theorem Lo.trans {B b : Nat} {u v w : World} (h : Lo B b u v) (k : Lo B b v w) : Lo B b u w :=
  ⟨k.os.trans h.os, k.tape.trans h.tape, k.output.trans h.output, Nat.le_trans h.size k.size, fun j hj hb => (k.block j hj hb).trans (h.block j hj hb)⟩
theorem Lo.of {B b : Nat} {u v : World} (h : Below B u v) : Lo B b u v := ⟨h.os, h.tape, h.output, h.size, fun k hk _ => h.block k hk⟩
theorem Lo.set (B b i : Nat) (u : World) (x : Value) : Lo B b u (u.setCell ⟨b, i, none⟩ x) := by
  have hk : Keep [b] u (u.setCell ⟨b, i, none⟩ x) := (Keep.refl _ _).setCell (p := ⟨b, i, none⟩) (.inl (by simp)) _
  refine ⟨hk.os, hk.tape, hk.output, hk.size, fun k _ hne => ?_⟩
  by_cases hlt : k < u.heap.size
  · exact hk.block k hlt (by simpa using hne)
  · rw [Array.getElem?_eq_none (by simp; omega), Array.getElem?_eq_none (by omega)]
theorem Lo.keep {B b : Nat} {u v : World} (h : Lo B b u v) (hB : u.heap.size ≤ B) : Keep [b] u v :=
  ⟨h.os, h.tape, h.output, h.size, fun k hk hn => h.block k (by omega) (by simpa using hn)⟩
/-- what a call of the document's net leaves. -/
def GD (d nodes : Nat) (vL vC : Value) (Ls' : List Pkt) (cs' : List (Int × Int)) (w w' : World) : Prop :=
  ∃ vL' vC', Dd w' d nodes vL' Ls' vC' cs' ∧ Keep [d] w w' ∧ (vL' = vL ∨ ∀ k, vL'.ownBlock = some k → w.heap.size ≤ k) ∧ (vC' = vC ∨ ∀ k, vC'.ownBlock = some k → w.heap.size ≤ k)
section
variable {W W' w w1 : World} {d nodes : Nat} {vL vC : Value} {Ls L1 : List Pkt} {cs : List (Int × Int)}
theorem dd_whole (h : Dd w d nodes vL Ls vC cs) : ∃ A c, vL = .slice A Ls.length c ∧ (A = none → Ls.length = 0 ∧ c = 0) ∧ (∀ W, Below w.heap.size w W → Lies W A (Ls.flatMap encP)) ∧ ∀ W, Below w.heap.size w W → RdE W A Ls.length 4 (Ls.map encP) := by
  obtain ⟨A, c, hv, hr, -, hn⟩ := own_rdE h.own encP_len rfl
  exact ⟨A, c, hv, hn, fun W hb => lies_rdE (hr.below hb) encP_len (by decide), fun W hb => hr.below hb⟩
theorem dd_fin {v : Value} {n : Nat} {xs : List Value} (h : Dd w1 d nodes vL Ls vC cs) (hb : Below w1.heap.size w1 W) (ho : W.ownsRow w1.heap.size DPT 4 v n xs) (h1 : n = L1.length) (h2 : xs = L1.flatMap encP) :
    ∃ v', Dd (W.setCell ⟨d, 1, none⟩ v) d nodes v' L1 vC cs ∧ ∀ k, v'.ownBlock = some k → w1.heap.size ≤ k := by
  subst h1
  subst h2
  have hlt := h.lt
  have hW := h.below hb
  have hk : Keep [d] W (W.setCell ⟨d, 1, none⟩ v) := (Keep.refl _ _).setCell (p := ⟨d, 1, none⟩) (.inl (by simp)) _
  refine ⟨v, ⟨(Go.Proofs.Ytbdcgfdchkbcnaa.L.heap_setCell_at W d 1 _ _ _ v hW.blk).trans rfl, ?_, own_keep hW.cut hk (fun k hk => by have := (own_lt hW.cut k hk).1; simp; omega)⟩, fun k hk => (own_lt ho k hk).1⟩
  exact own_base (own_keep ho hk (fun k hk => by have := (own_lt ho k hk).1; simp; omega)) (by omega)
theorem gd_of (hb : Below w.heap.size w w1) (h : ∃ v', Dd W d nodes v' L1 vC cs ∧ ∀ k, v'.ownBlock = some k → w1.heap.size ≤ k) (hl : Lo w1.heap.size d w1.drew W) : GD d nodes vL vC L1 cs w W := by
  obtain ⟨v', h1, h2⟩ := h
  refine ⟨v', vC, h1, ?_, .inr fun k hk => Nat.le_trans hb.size (h2 k hk), .inl rfl⟩
  have h0 : Keep [d] w1.drew W := hl.keep (Nat.le_refl _)
  exact ((Keep.of_below hb).trans (.of_below (below_drewN 1 w1))).trans h0
theorem gd_same (h : Dd w d nodes vL Ls vC cs) (hb : Below w.heap.size w W) : GD d nodes vL vC Ls cs w W := ⟨vL, vC, h.below hb, .of_below hb, .inl rfl, .inl rfl⟩
/-- the two sides of one packet. -/
theorem dd_parts (h : Dd w d nodes vL Ls vC cs) (ix : Nat) (hix : ix < Ls.length) :
    ∃ g c AJ, vL = .slice (some ⟨g, 0, none⟩) Ls.length c ∧ Ls.length ≤ c ∧ (if c = ix + 1 then some (⟨g, 0, none⟩ : Addr) else some ⟨g, (ix + 1) * 4, none⟩) = some AJ ∧
      (∀ W, Below w.heap.size w W → Lies W (some ⟨g, 0, none⟩) ((Ls.take ix).flatMap encP)) ∧ (∀ W, Below w.heap.size w W → Lies W (some AJ) ((Ls.drop (ix + 1)).flatMap encP)) := by
  obtain ⟨g, vc, hv⟩ : ∃ g vc, vL = .slice (some ⟨g, 0, none⟩) Ls.length vc := by
    rcases h.own.2 with ⟨_, hn⟩ | ⟨g, cap, cur, hv, _⟩
    · omega
    · exact ⟨g, cap, hv⟩
  have hfl := flat_len encP_len Ls
  have hRD : ∀ W, Below w.heap.size w W → ∀ t u, (Ls.flatMap encP)[t]? = some u → W.cell? ⟨g, t, none⟩ = some u := fun W hS t u hu => by
    have ho := (h.below hS).own
    rw [hv] at ho
    exact (own_some ho).2.2.2.2.2.2 t u hu
  have hle : Ls.length ≤ vc := by
    have ho := h.own
    rw [hv] at ho
    exact (own_some ho).2.2.2.1
  obtain ⟨AJ, hAJ⟩ : ∃ AJ : Addr, (if vc = ix + 1 then some (⟨g, 0, none⟩ : Addr) else some ⟨g, (ix + 1) * 4, none⟩) = some AJ := by
    by_cases h : vc = ix + 1
    · exact ⟨_, by rw [if_pos h]⟩
    · exact ⟨_, by rw [if_neg h]⟩
  refine ⟨g, vc, AJ, hv, hle, hAJ, fun W hS h0 => ⟨g, 0, rfl, fun t ht => ?_⟩, fun W hS h0 => ?_⟩
  · rw [Nat.zero_add, List.getElem?_eq_getElem ht]
    refine hRD W hS t _ ?_
    rw [← List.getElem?_eq_getElem ht]
    rw [← flat_take encP_len, List.length_take] at ht
    rw [← flat_take encP_len, List.getElem?_take_of_lt (by omega)]
  · have hlen := flat_len encP_len (Ls.drop (ix + 1))
    rw [List.length_drop] at hlen
    have hne : ¬ vc = ix + 1 := fun e => by
      have : Ls.length - (ix + 1) = 0 := by omega
      rw [this] at hlen
      omega
    rw [if_neg hne] at hAJ
    injection hAJ with hAJ
    subst hAJ
    refine ⟨g, (ix + 1) * 4, rfl, fun t ht => ?_⟩
    rw [List.getElem?_eq_getElem ht]
    refine hRD W hS _ _ ?_
    rw [← List.getElem?_eq_getElem ht, ← flat_drop encP_len, List.getElem?_drop]
end
theorem ddouble_no (d nodes : Nat) (vL vC : Value) (Ls : List Pkt) (cs : List (Int × Int)) (i : Int) (w : World) (h : Dd w d nodes vL Ls vC cs) (hi : ¬ (0 ≤ i ∧ i < Ls.length)) :
    Calls Try.prog 29 #[.pointer (some ⟨d, 0, none⟩), .int .i64 i] w fun e w' => e = .returned (.int .i64 8) ∧ w = w' := by
  obtain ⟨A, c, hv, -, -, -⟩ := dd_whole h
  have hc := h.cell.2.1
  rw [hv] at hc
  obtain ⟨k, hk⟩ : ∃ k, Ls.length = k := ⟨_, rfl⟩
  rw [hk] at hc hi
  clear h hv hk
  by_cases h0 : i < 0
  · have hd0 : decide (i < 0) = true := by simpa using h0
    go_enter Try.func29, Try.ntmps29
    go_wp2
    go_ret
    exact ⟨rfl, rfl⟩
  · have hd0 : decide (i < 0) = false := by simpa using h0
    have hd : decide ((k : Int) ≤ i) = true := by simp; omega
    go_enter Try.func29, Try.ntmps29
    go_wp2
    go_ret
    exact ⟨rfl, rfl⟩
theorem ddouble_full (d nodes : Nat) (vL vC : Value) (Ls : List Pkt) (cs : List (Int × Int)) (i : Nat) (w : World) (h : Dd w d nodes vL Ls vC cs) (hi : i < Ls.length) (hf : 256 ≤ Ls.length) :
    Calls Try.prog 29 #[.pointer (some ⟨d, 0, none⟩), .int .i64 i] w fun e w' => e = .returned (.int .i64 6) ∧ w = w' := by
  obtain ⟨A, c, hv, -, -, -⟩ := dd_whole h
  have hc := h.cell.2.1
  rw [hv] at hc
  obtain ⟨k, hk⟩ : ∃ k, Ls.length = k := ⟨_, rfl⟩
  rw [hk] at hc hi hf
  have hd : decide ((k : Int) ≤ (i : Int)) = false := by simp; omega
  have hd2 : decide ((256 : Int) ≤ (k : Int)) = true := by simp; omega
  clear h hv hk
  go_enter Try.func29, Try.ntmps29
  go_wp2
  go_ret
  exact ⟨rfl, rfl⟩
set_option maxHeartbeats 8000000 in
set_option maxRecDepth 100000 in
theorem ddouble_ok (d nodes : Nat) (VV vC : Value) (Ls : List Pkt) (cs : List (Int × Int)) (ix : Nat) (w1 : World) (h : Dd w1 d nodes VV Ls vC cs) (hi : ix < Ls.length) (hf : Ls.length < 256) :
    Calls Try.prog 29 #[.pointer (some ⟨d, 0, none⟩), .int .i64 ix] w1 fun e w' => e = .returned (.int .i64 0) ∧ GD d nodes VV vC (Ls ++ [Ls[ix]]) cs w1 w' := by
  obtain ⟨AL, cL, hv, hAL, hLL, hRD⟩ := dd_whole h
  obtain ⟨⟨px, py, pS, pq⟩, hp⟩ : ∃ p : Pkt, Hid (Ls[ix] = p) := ⟨_, Lib.hid rfl⟩
  obtain ⟨ab, ao, hA, -⟩ := pkt_at (hRD w1 (Below.refl _ _)) ix hi hi _ hp.out
  have HEL : Hid (∀ W, Below w1.heap.size w1 W → W.cell? ⟨ab, ao + ix * 4, none⟩ = some (.int .i64 px) ∧ W.cell? ⟨ab, ao + ix * 4 + 1, none⟩ = some (.int .i64 py) ∧ W.cell? ⟨ab, ao + ix * 4 + 2, none⟩ = some (.string pS) ∧ W.cell? ⟨ab, ao + ix * 4 + 3, none⟩ = some (.bool pq)) := Lib.hid fun W hb => by
    obtain ⟨b9, f9, h9, d0, d1, d2, d3⟩ := pkt_at (hRD W hb) ix hi hi _ hp.out
    rw [hA] at h9
    injection h9 with h9
    injection h9 with e1 e2
    subst e1; subst e2
    exact ⟨d0, d1, d2, d3⟩
  rw [hp.out]
  obtain ⟨nL, hn⟩ : ∃ nL, Ls.length = nL := ⟨_, rfl⟩
  obtain ⟨FL, hFL⟩ : ∃ FL, Ls.flatMap encP = FL := ⟨_, rfl⟩
  obtain ⟨NW, hNW⟩ : ∃ NW, ([⟨px, py, pS, pq⟩] : List Pkt).flatMap encP = NW := ⟨_, rfl⟩
  have HNW : Hid (NW.length = 1 * 4 ∧ NW = [.int .i64 px, .int .i64 py, .string pS, .bool pq]) := Lib.hid (by rw [← hNW]; exact ⟨rfl, rfl⟩)
  obtain ⟨L1, hL1⟩ : ∃ L1, Ls ++ [⟨px, py, pS, pq⟩] = L1 := ⟨_, rfl⟩
  have HE1 : Hid (nL + 1 = L1.length ∧ FL ++ NW = L1.flatMap encP) := Lib.hid (by rw [← hL1, List.length_append, hn, List.flatMap_append, hFL, hNW]; exact ⟨rfl, rfl⟩)
  have HFL : Hid (FL.length = nL * 4) := Lib.hid (by rw [← hFL, flat_len encP_len, hn])
  have HOL : Hid (∀ u ∈ FL, u.oneCell' = true) := Lib.hid (by rw [← hFL]; exact one_pkt)
  rw [hn] at hv hAL hi hf
  rw [hFL] at hLL
  rw [hL1]
  have HCL := Lib.hid h.cell.2.1
  have HD := Lib.hid h
  have HAL := Lib.hid hAL
  have HLL := Lib.hid hLL
  have hVV := Lib.hid hv
  have HIX := Lib.hid hi
  have hn9 : Hid (nL ≤ 256) := Lib.hid (by omega)
  have HFIN : Hid (∀ W, (∃ v', Dd W d nodes v' L1 vC cs ∧ ∀ k, v'.ownBlock = some k → w1.heap.size ≤ k) → Lo w1.heap.size d w1.drew W → GD d nodes VV vC L1 cs w1 W) := Lib.hid fun W h1 h2 => gd_of (Below.refl _ _) h1 h2
  have hcell := h.cell.2.1
  rw [hv] at hcell
  have hd : decide ((nL : Int) ≤ (ix : Int)) = false := by simp; omega
  have hd2 : decide ((256 : Int) ≤ (nL : Int)) = false := by simp; omega
  have hd3 : decide (256 ≤ nL) = false := by simp; omega
  have hd4 : decide (nL ≤ ix) = false := by simp; omega
  subst hA
  clear h hv hAL hLL hRD hn hFL hNW hL1
  go_enter Try.func29, Try.ntmps29
  go_wp2_with fail
  clear hcell hd hd2 hd3 hd4 hi hf
  refine wp_region_last (fun W => Below w1.heap.size w1 W) (Lo w1.heap.size d) (fun k u v => ((k = 15 ∨ k = 18) → (Lo w1.heap.size d) u v) ∧ (¬ (k = 15 ∨ k = 18) → (fun u v => Below u.heap.size u v ∧ Below w1.heap.size u v) u v)) (fun a i => match i with
      | 0 => (fun v _ => v = .pointer (some ⟨d, 0, none⟩))
      | 1 => (fun v W => ∃ A0, v = .slice A0 0 0 ∧ W.ownsRow w1.heap.size DPT 4 v 0 [])
      | 2 => (fun v _ => v = .pointer (some ⟨d, 0, none⟩))
      | 3 => (fun v _ => v = .pointer (some ⟨d, 0, none⟩))
      | 4 => (fun v _ => v = .pointer (some ⟨d, 1, none⟩))
      | 5 => (fun v _ => v = .slice (some ⟨ab, ao, none⟩) nL cL)
      | 6 => (fun v W => W.ownsRow w1.heap.size DPT 4 v (nL) (FL))
      | 7 => (fun v _ => v = .pointer (some ⟨d, 0, none⟩))
      | 8 => (fun v _ => v = .pointer (some ⟨d, 0, none⟩))
      | 9 => (fun v _ => v = .pointer (some ⟨d, 1, none⟩))
      | 10 => (fun v _ => v = .slice (some ⟨ab, ao, none⟩) nL cL)
      | 11 => (fun v _ => v = .int .i64 (ix : Int))
      | 12 => (fun v _ => v = .pointer (some ⟨ab, ao + ix * 4, none⟩))
      | 13 => (fun v _ => v = .agg #[.int .i64 px, .int .i64 py, .string pS, .bool pq])
      | 14 => (fun v W => ∃ j, v = .slice (some ⟨j, 0, none⟩) 1 1 ∧ j < W.heap.size ∧ W.heap[j]? = some (.cells #[.int .i64 px, .int .i64 py, .string pS, .bool pq] DPT (0, 0)))
      | 15 => (fun v W => W.ownsRow w1.heap.size DPT 4 v (nL + 1) (FL ++ NW))
      | 16 => (fun v _ => v = .pointer (some ⟨d, 0, none⟩))
      | 17 => (fun v _ => v = .pointer (some ⟨d, 1, none⟩))
      | 18 => (fun v W => ∃ v', Dd W d nodes v' L1 vC cs ∧ ∀ k, v'.ownBlock = some k → w1.heap.size ≤ k)
      | _ => (fun _ _ => True)) #[0, 0, 0, 4, 12, 28, 62, 0, 128, 384, 896, 0, 3968, 8064, 16256, 32766, 65535, 131071, 262143] #[0, 0, 0, 4, 8, 16, 34, 0, 128, 256, 512, 0, 3072, 4096, 8192, 16448, 1, 65536, 163840] 475069 18 (by kernel_rfl) 19 rfl (by kernel_rfl) (fun m hm => by subst hm; kernel_rfl) (by kernel_rfl) (fun w => Lo.refl _ _ _) (fun u v w h1 h2 => h1.trans h2) ?_ ?_ (below_drewN 1 w1) ?_ ?_
  · intro k u v hk hr
    by_cases hs : k = 15 ∨ k = 18
    · have h := hr.1 hs; exact h
    · have h := hr.2 hs; exact Lo.of h.2
  · intro i hi hiz
    rcases (by omega : i = 0 ∨ i = 1 ∨ i = 2 ∨ i = 3 ∨ i = 4 ∨ i = 5 ∨ i = 6 ∨ i = 7 ∨ i = 8 ∨ i = 9 ∨ i = 10 ∨ i = 11 ∨ i = 12 ∨ i = 13 ∨ i = 14 ∨ i = 15 ∨ i = 16 ∨ i = 17 ∨ i = 18) with rfl | rfl | rfl | rfl | rfl | rfl | rfl | rfl | rfl | rfl | rfl | rfl | rfl | rfl | rfl | rfl | rfl | rfl | rfl
    · intro k hk q hq hqt v w w' h hr
      by_cases hs : k = 15 ∨ k = 18
      · have hr0 := hr.1 hs
        rcases hs with rfl | rfl
        · exact (fun (h : _) (hr : _) => by exact h) h hr0
        · exact (fun (h : _) (hr : _) => by exact h) h hr0
      · have hr := hr.2 hs
        exact h
    · intro k hk q hq hqt v w w' h hr
      by_cases hs : k = 15 ∨ k = 18
      · have hr0 := hr.1 hs
        rcases hs with rfl | rfl
        · exact absurd (hq.trans hqt) (ne_true_of_eq_false (by kernel_rfl))
        · exact absurd (hq.trans hqt) (ne_true_of_eq_false (by kernel_rfl))
      · have hr := hr.2 hs
        obtain ⟨A0, h1, h2⟩ := h; exact ⟨A0, h1, own_kept h2 hr.1⟩
    · intro k hk q hq hqt v w w' h hr
      by_cases hs : k = 15 ∨ k = 18
      · have hr0 := hr.1 hs
        rcases hs with rfl | rfl
        · exact (fun (h : _) (hr : _) => by exact h) h hr0
        · exact (fun (h : _) (hr : _) => by exact h) h hr0
      · have hr := hr.2 hs
        exact h
    · intro k hk q hq hqt v w w' h hr
      by_cases hs : k = 15 ∨ k = 18
      · have hr0 := hr.1 hs
        rcases hs with rfl | rfl
        · exact (fun (h : _) (hr : _) => by exact h) h hr0
        · exact (fun (h : _) (hr : _) => by exact h) h hr0
      · have hr := hr.2 hs
        exact h
    · intro k hk q hq hqt v w w' h hr
      by_cases hs : k = 15 ∨ k = 18
      · have hr0 := hr.1 hs
        rcases hs with rfl | rfl
        · exact (fun (h : _) (hr : _) => by exact h) h hr0
        · exact (fun (h : _) (hr : _) => by exact h) h hr0
      · have hr := hr.2 hs
        exact h
    · intro k hk q hq hqt v w w' h hr
      by_cases hs : k = 15 ∨ k = 18
      · have hr0 := hr.1 hs
        rcases hs with rfl | rfl
        · exact (fun (h : _) (hr : _) => by exact h) h hr0
        · exact (fun (h : _) (hr : _) => by exact h) h hr0
      · have hr := hr.2 hs
        exact h
    · intro k hk q hq hqt v w w' h hr
      by_cases hs : k = 15 ∨ k = 18
      · have hr0 := hr.1 hs
        rcases hs with rfl | rfl
        · exact absurd (hq.trans hqt) (ne_true_of_eq_false (by kernel_rfl))
        · exact absurd (hq.trans hqt) (ne_true_of_eq_false (by kernel_rfl))
      · have hr := hr.2 hs
        exact own_kept h hr.1
    · intro k hk q hq hqt v w w' h hr
      by_cases hs : k = 15 ∨ k = 18
      · have hr0 := hr.1 hs
        rcases hs with rfl | rfl
        · exact (fun (h : _) (hr : _) => by exact h) h hr0
        · exact (fun (h : _) (hr : _) => by exact h) h hr0
      · have hr := hr.2 hs
        exact h
    · intro k hk q hq hqt v w w' h hr
      by_cases hs : k = 15 ∨ k = 18
      · have hr0 := hr.1 hs
        rcases hs with rfl | rfl
        · exact (fun (h : _) (hr : _) => by exact h) h hr0
        · exact (fun (h : _) (hr : _) => by exact h) h hr0
      · have hr := hr.2 hs
        exact h
    · intro k hk q hq hqt v w w' h hr
      by_cases hs : k = 15 ∨ k = 18
      · have hr0 := hr.1 hs
        rcases hs with rfl | rfl
        · exact (fun (h : _) (hr : _) => by exact h) h hr0
        · exact (fun (h : _) (hr : _) => by exact h) h hr0
      · have hr := hr.2 hs
        exact h
    · intro k hk q hq hqt v w w' h hr
      by_cases hs : k = 15 ∨ k = 18
      · have hr0 := hr.1 hs
        rcases hs with rfl | rfl
        · exact (fun (h : _) (hr : _) => by exact h) h hr0
        · exact (fun (h : _) (hr : _) => by exact h) h hr0
      · have hr := hr.2 hs
        exact h
    · intro k hk q hq hqt v w w' h hr
      by_cases hs : k = 15 ∨ k = 18
      · have hr0 := hr.1 hs
        rcases hs with rfl | rfl
        · exact (fun (h : _) (hr : _) => by exact h) h hr0
        · exact (fun (h : _) (hr : _) => by exact h) h hr0
      · have hr := hr.2 hs
        exact h
    · intro k hk q hq hqt v w w' h hr
      by_cases hs : k = 15 ∨ k = 18
      · have hr0 := hr.1 hs
        rcases hs with rfl | rfl
        · exact (fun (h : _) (hr : _) => by exact h) h hr0
        · exact (fun (h : _) (hr : _) => by exact h) h hr0
      · have hr := hr.2 hs
        exact h
    · intro k hk q hq hqt v w w' h hr
      by_cases hs : k = 15 ∨ k = 18
      · have hr0 := hr.1 hs
        rcases hs with rfl | rfl
        · exact (fun (h : _) (hr : _) => by exact h) h hr0
        · exact (fun (h : _) (hr : _) => by exact h) h hr0
      · have hr := hr.2 hs
        exact h
    · intro k hk q hq hqt v w w' h hr
      by_cases hs : k = 15 ∨ k = 18
      · have hr0 := hr.1 hs
        rcases hs with rfl | rfl
        · exact absurd (hq.trans hqt) (ne_true_of_eq_false (by kernel_rfl))
        · exact absurd (hq.trans hqt) (ne_true_of_eq_false (by kernel_rfl))
      · have hr := hr.2 hs
        obtain ⟨j, h1, h2, h3⟩ := h; exact ⟨j, h1, Nat.lt_of_lt_of_le h2 hr.1.size, (hr.1.block j h2).trans h3⟩
    · intro k hk q hq hqt v w w' h hr
      by_cases hs : k = 15 ∨ k = 18
      · have hr0 := hr.1 hs
        rcases hs with rfl | rfl
        · exact absurd (hq.trans hqt) (ne_true_of_eq_false (by kernel_rfl))
        · exact absurd (hq.trans hqt) (ne_true_of_eq_false (by kernel_rfl))
      · have hr := hr.2 hs
        exact own_kept h hr.1
    · intro k hk q hq hqt v w w' h hr
      by_cases hs : k = 15 ∨ k = 18
      · have hr0 := hr.1 hs
        rcases hs with rfl | rfl
        · exact absurd (hq.trans hqt) (ne_true_of_eq_false (by kernel_rfl))
        · exact (fun (h : _) (hr : _) => by exact h) h hr0
      · have hr := hr.2 hs
        exact h
    · intro k hk q hq hqt v w w' h hr
      by_cases hs : k = 15 ∨ k = 18
      · have hr0 := hr.1 hs
        rcases hs with rfl | rfl
        · exact absurd (hq.trans hqt) (ne_true_of_eq_false (by kernel_rfl))
        · exact (fun (h : _) (hr : _) => by exact h) h hr0
      · have hr := hr.2 hs
        exact h
    · exact absurd rfl hiz
  · intro i hi
    rcases (by omega : i = 0 ∨ i = 1 ∨ i = 2 ∨ i = 3 ∨ i = 4 ∨ i = 5 ∨ i = 6 ∨ i = 7 ∨ i = 8 ∨ i = 9 ∨ i = 10 ∨ i = 11 ∨ i = 12 ∨ i = 13 ∨ i = 14 ∨ i = 15 ∨ i = 16 ∨ i = 17 ∨ i = 18) with rfl | rfl | rfl | rfl | rfl | rfl | rfl | rfl | rfl | rfl | rfl | rfl | rfl | rfl | rfl | rfl | rfl | rfl | rfl
    · -- 0: Op.move (Operand.tmp 0)
      intro l hl vs W hS hR hp
      obtain rfl : l = [] := hl.symm.trans (by kernel_rfl)
      clear hp hl
      refine opgoal (_) (some 22) rfl rfl fun K hK => ?_
      refine Runs.mk ?_
      simp only [putAll]
      go_simp
      refine hK _ _ ?_ (fun _ => hS) ⟨fun h => absurd h (by decide), fun _ => ((fun w => ⟨Below.refl _ _, Below.refl _ _⟩) W)⟩ _ rfl rfl
      first | rfl | go_simp | simp
    · -- 1: Op.buildSlice 47 0 #[]
      intro l hl vs W hS hR hp
      obtain rfl : l = [] := hl.symm.trans (by kernel_rfl)
      clear hp hl
      refine opgoal (_) (some 23) rfl rfl fun K hK => ?_
      refine Runs.mk ?_
      simp only [putAll]
      go_simp
      refine hK _ _ ⟨_, rfl, ?_⟩ (fun _ => below2 hS (below_alloc _ _)) ⟨fun h => absurd h (by decide), fun _ => ⟨below_alloc _ _, (below_alloc _ _).mono hS.size⟩⟩ _ rfl rfl
      exact World.ownsRow_lit (size := 4) W #[] 0 hS.size (by decide) rfl
    · -- 2: Op.move (Operand.tmp 0)
      intro l hl vs W hS hR hp
      obtain rfl : l = [] := hl.symm.trans (by kernel_rfl)
      clear hp hl
      refine opgoal (_) (some 24) rfl rfl fun K hK => ?_
      refine Runs.mk ?_
      simp only [putAll]
      go_simp
      refine hK _ _ ?_ (fun _ => hS) ⟨fun h => absurd h (by decide), fun _ => ((fun w => ⟨Below.refl _ _, Below.refl _ _⟩) W)⟩ _ rfl rfl
      first | rfl | go_simp | simp
    · -- 3: Op.nilCheck (Operand.tmp 24)
      intro l hl vs W hS hR hp
      obtain rfl : l = [(2, 24)] := hl.symm.trans (by kernel_rfl)
      have p2 : vs 2 = _ := hp 2 (by decide) (by decide)
      clear hp hl
      refine opgoal (_) (some 25) rfl rfl fun K hK => ?_
      refine Runs.mk ?_
      simp only [putAll]
      go_simp
      refine hK _ _ ?_ (fun _ => hS) ⟨fun h => absurd h (by decide), fun _ => ((fun w => ⟨Below.refl _ _, Below.refl _ _⟩) W)⟩ _ rfl rfl
      first | rfl | go_simp | simp
    · -- 4: Op.fieldAddr 56 (Operand.tmp 25) 1
      intro l hl vs W hS hR hp
      obtain rfl : l = [(2, 24), (3, 25)] := hl.symm.trans (by kernel_rfl)
      have p3 : vs 3 = _ := hp 3 (by decide) (by decide)
      clear hp hl
      refine opgoal (_) (some 26) rfl rfl fun K hK => ?_
      refine Runs.mk ?_
      simp only [putAll]
      go_simp
      refine hK _ _ ?_ (fun _ => hS) ⟨fun h => absurd h (by decide), fun _ => ((fun w => ⟨Below.refl _ _, Below.refl _ _⟩) W)⟩ _ rfl rfl
      first | rfl | go_simp | simp
    · -- 5: Op.load 47 (Operand.tmp 26)
      intro l hl vs W hS hR hp
      obtain rfl : l = [(2, 24), (3, 25), (4, 26)] := hl.symm.trans (by kernel_rfl)
      have p4 : vs 4 = _ := hp 4 (by decide) (by decide)
      clear hp hl
      refine opgoal (_) (some 27) rfl rfl fun K hK => ?_
      have hb1 : W.cell? ⟨d, 1, none⟩ = some VV := cell_below hS HCL.out
      rw [hVV.out] at hb1
      refine Runs.mk ?_
      simp only [putAll]
      go_simp
      refine hK _ _ ?_ (fun _ => hS) ⟨fun h => absurd h (by decide), fun _ => ((fun w => ⟨Below.refl _ _, Below.refl _ _⟩) W)⟩ _ rfl rfl
      first | rfl | go_simp | simp
    · -- 6: Op.call { callee := Callee.builtin Builtin.append, args := #[Operand.tmp 23, Operand.tmp 27], argTypes := #[47, 47] }
      intro l hl vs W hS hR hp
      obtain rfl : l = [(1, 23), (2, 24), (3, 25), (4, 26), (5, 27)] := hl.symm.trans (by kernel_rfl)
      have p1 : (fun v W => ∃ A0, v = .slice A0 0 0 ∧ W.ownsRow w1.heap.size DPT 4 v 0 []) (vs 1) W := hp 1 (by decide) (by decide)
      dsimp only at p1
      have p5 : vs 5 = _ := hp 5 (by decide) (by decide)
      clear hp hl
      refine opgoal ({ dst := some 28, op := Op.call { callee := Callee.builtin Builtin.append, args := #[Operand.tmp 23, Operand.tmp 27], argTypes := #[47, 47] }, type := 47, pos := "ref.go:71", after := #[{ on := 1, ground := Ground.data }, { on := 5, ground := Ground.data }], guard := none }) (some 28) rfl rfl fun K hK => ?_
      obtain ⟨A0, q1, o1⟩ := p1
      rw [q1] at o1
      refine runs_append_fresh W (wanted_none rfl) (.tmp 23) (.tmp 27) w1.heap.size 47 DPT (.agg #[.int .i64 0, .int .i64 0, .string ⟨#[]⟩, .bool false]) 4 40 rfl (by kernel_rfl) (by kernel_rfl) rfl (by decide) (by decide) A0 (by simp [putAll, Act.put, Act.eval, q1]) o1 (some ⟨ab, ao, none⟩) (nL) (cL) (by simp [putAll, Act.put, Act.eval, p5]) (HAL.out) (FL) (HFL.out) (HLL.out W hS) (HOL.out) (by have := hn9.out; omega) hS.size ?_
      intro v' w' h1 h2
      exact hK _ _ h1 (fun _ => below2 hS h2) ⟨fun h => absurd h (by decide), fun _ => ⟨h2, h2.mono hS.size⟩⟩ _ put_dfs (put_slot (by simp))
    · -- 7: Op.move (Operand.tmp 0)
      intro l hl vs W hS hR hp
      obtain rfl : l = [] := hl.symm.trans (by kernel_rfl)
      clear hp hl
      refine opgoal (_) (some 29) rfl rfl fun K hK => ?_
      refine Runs.mk ?_
      simp only [putAll]
      go_simp
      refine hK _ _ ?_ (fun _ => hS) ⟨fun h => absurd h (by decide), fun _ => ((fun w => ⟨Below.refl _ _, Below.refl _ _⟩) W)⟩ _ rfl rfl
      first | rfl | go_simp | simp
    · -- 8: Op.nilCheck (Operand.tmp 29)
      intro l hl vs W hS hR hp
      obtain rfl : l = [(7, 29)] := hl.symm.trans (by kernel_rfl)
      have p7 : vs 7 = _ := hp 7 (by decide) (by decide)
      clear hp hl
      refine opgoal (_) (some 30) rfl rfl fun K hK => ?_
      refine Runs.mk ?_
      simp only [putAll]
      go_simp
      refine hK _ _ ?_ (fun _ => hS) ⟨fun h => absurd h (by decide), fun _ => ((fun w => ⟨Below.refl _ _, Below.refl _ _⟩) W)⟩ _ rfl rfl
      first | rfl | go_simp | simp
    · -- 9: Op.fieldAddr 56 (Operand.tmp 30) 1
      intro l hl vs W hS hR hp
      obtain rfl : l = [(7, 29), (8, 30)] := hl.symm.trans (by kernel_rfl)
      have p8 : vs 8 = _ := hp 8 (by decide) (by decide)
      clear hp hl
      refine opgoal (_) (some 31) rfl rfl fun K hK => ?_
      refine Runs.mk ?_
      simp only [putAll]
      go_simp
      refine hK _ _ ?_ (fun _ => hS) ⟨fun h => absurd h (by decide), fun _ => ((fun w => ⟨Below.refl _ _, Below.refl _ _⟩) W)⟩ _ rfl rfl
      first | rfl | go_simp | simp
    · -- 10: Op.load 47 (Operand.tmp 31)
      intro l hl vs W hS hR hp
      obtain rfl : l = [(7, 29), (8, 30), (9, 31)] := hl.symm.trans (by kernel_rfl)
      have p9 : vs 9 = _ := hp 9 (by decide) (by decide)
      clear hp hl
      refine opgoal (_) (some 32) rfl rfl fun K hK => ?_
      have hb1 : W.cell? ⟨d, 1, none⟩ = some VV := cell_below hS HCL.out
      rw [hVV.out] at hb1
      refine Runs.mk ?_
      simp only [putAll]
      go_simp
      refine hK _ _ ?_ (fun _ => hS) ⟨fun h => absurd h (by decide), fun _ => ((fun w => ⟨Below.refl _ _, Below.refl _ _⟩) W)⟩ _ rfl rfl
      first | rfl | go_simp | simp
    · -- 11: Op.move (Operand.tmp 1)
      intro l hl vs W hS hR hp
      obtain rfl : l = [] := hl.symm.trans (by kernel_rfl)
      clear hp hl
      refine opgoal (_) (some 33) rfl rfl fun K hK => ?_
      refine Runs.mk ?_
      simp only [putAll]
      go_simp
      refine hK _ _ ?_ (fun _ => hS) ⟨fun h => absurd h (by decide), fun _ => ((fun w => ⟨Below.refl _ _, Below.refl _ _⟩) W)⟩ _ rfl rfl
      first | rfl | go_simp | simp
    · -- 12: Op.indexAddr 47 (Operand.tmp 32) (Operand.tmp 33)
      intro l hl vs W hS hR hp
      obtain rfl : l = [(7, 29), (8, 30), (9, 31), (10, 32), (11, 33)] := hl.symm.trans (by kernel_rfl)
      have p10 : vs 10 = _ := hp 10 (by decide) (by decide)
      have p11 : vs 11 = _ := hp 11 (by decide) (by decide)
      clear hp hl
      refine opgoal (_) (some 34) rfl rfl fun K hK => ?_
      have hix := HIX.out
      refine Runs.mk ?_
      simp only [putAll]
      go_simp
      refine hK _ _ ?_ (fun _ => hS) ⟨fun h => absurd h (by decide), fun _ => ((fun w => ⟨Below.refl _ _, Below.refl _ _⟩) W)⟩ _ rfl rfl
      first | rfl | go_simp | simp
    · -- 13: Op.load 49 (Operand.tmp 34)
      intro l hl vs W hS hR hp
      obtain rfl : l = [(7, 29), (8, 30), (9, 31), (10, 32), (11, 33), (12, 34)] := hl.symm.trans (by kernel_rfl)
      have p12 : vs 12 = _ := hp 12 (by decide) (by decide)
      clear hp hl
      refine opgoal (_) (some 35) rfl rfl fun K hK => ?_
      obtain ⟨c0, c1, c2, c3⟩ := HEL.out W hS
      refine Runs.mk ?_
      simp only [putAll]
      go_simp
      refine hK _ _ ?_ (fun _ => hS) ⟨fun h => absurd h (by decide), fun _ => ((fun w => ⟨Below.refl _ _, Below.refl _ _⟩) W)⟩ _ rfl rfl
      first | rfl | go_simp | simp
    · -- 14: Op.buildSlice 47 1 #[(0, Operand.tmp 35)]
      intro l hl vs W hS hR hp
      obtain rfl : l = [(7, 29), (8, 30), (9, 31), (10, 32), (11, 33), (12, 34), (13, 35)] := hl.symm.trans (by kernel_rfl)
      have p13 : vs 13 = _ := hp 13 (by decide) (by decide)
      clear hp hl
      refine opgoal (_) (some 36) rfl rfl fun K hK => ?_
      refine Runs.mk ?_
      simp only [putAll]
      go_simp
      have hb := below_alloc W (.cells #[.int .i64 px, .int .i64 py, .string pS, .bool pq] DPT)
      exact hK _ _ ⟨W.heap.size, rfl, by simp, heap_alloc_new _ _⟩ (fun _ => below2 hS hb) ⟨fun h => absurd h (by decide), fun _ => ⟨hb, hb.mono hS.size⟩⟩ _ rfl rfl
    · -- 15: Op.call { callee := Callee.builtin Builtin.append, args := #[Operand.tmp 28, Operand.tmp 36], argTypes := #[47, 47] }
      intro l hl vs W hS hR hp
      obtain rfl : l = [(1, 23), (2, 24), (3, 25), (4, 26), (5, 27), (6, 28), (7, 29), (8, 30), (9, 31), (10, 32), (11, 33), (12, 34), (13, 35), (14, 36)] := hl.symm.trans (by kernel_rfl)
      have p6 : (fun v W => W.ownsRow w1.heap.size DPT 4 v (nL) (FL)) (vs 6) W := hp 6 (by decide) (by decide)
      dsimp only at p6
      have p14 : (fun v W => ∃ j, v = .slice (some ⟨j, 0, none⟩) 1 1 ∧ j < W.heap.size ∧ W.heap[j]? = some (.cells #[.int .i64 px, .int .i64 py, .string pS, .bool pq] DPT (0, 0))) (vs 14) W := hp 14 (by decide) (by decide)
      dsimp only at p14
      clear hp hl
      obtain ⟨j, q14, l14, b14⟩ := p14
      refine opgoal ({ dst := some 37, op := Op.call { callee := Callee.builtin Builtin.append, args := #[Operand.tmp 28, Operand.tmp 36], argTypes := #[47, 47] }, type := 47, pos := "ref.go:71", after := #[{ on := 6, ground := Ground.data }, { on := 14, ground := Ground.data }, { on := 6, ground := Ground.chain }], guard := none }) (some 37) rfl rfl fun K hK => ?_
      refine runs_append_src W (wanted_none rfl) (.tmp 28) (.tmp 36) w1.heap.size 47 DPT (.agg #[.int .i64 0, .int .i64 0, .string ⟨#[]⟩, .bool false]) 4 40 rfl (by kernel_rfl) (by kernel_rfl) rfl (by decide) (by decide) (vs 6) (nL) (FL) (by simp [putAll, Act.put, Act.eval]) p6 (some ⟨j, 0, none⟩) (1) (1) (by simp [putAll, Act.put, Act.eval, q14]) (fun h => by cases h) (NW) (HNW.out.1) (by rw [HNW.out.2]; exact lies_block b14) (by rw [HNW.out.2]; simp [Value.oneCell']) (by have := hn9.out; omega) hS.size ?_
      intro v' w' h1 h2 h3
      have hbl := below_of_grown h2 hS.size (fun k hk => (own_lt p6 k hk).1)
      exact hK _ _ h1 (fun _ => hS.trans hbl) ⟨fun _ => Lo.of hbl, fun h => absurd (by decide) h⟩ _ put_dfs (put_slot (by simp))
    · -- 16: Op.nilCheck (Operand.tmp 22)
      intro l hl vs W hS hR hp
      obtain rfl : l = [(0, 22), (1, 23), (2, 24), (3, 25), (4, 26), (5, 27), (6, 28), (7, 29), (8, 30), (9, 31), (10, 32), (11, 33), (12, 34), (13, 35), (14, 36), (15, 37)] := hl.symm.trans (by kernel_rfl)
      have p0 : vs 0 = _ := hp 0 (by decide) (by decide)
      clear hp hl
      refine opgoal (_) (some 38) rfl rfl fun K hK => ?_
      refine Runs.mk ?_
      simp only [putAll]
      go_simp
      refine hK _ _ ?_ (fun _ => hS) ⟨fun h => absurd h (by decide), fun _ => ((fun w => ⟨Below.refl _ _, Below.refl _ _⟩) W)⟩ _ rfl rfl
      first | rfl | go_simp | simp
    · -- 17: Op.fieldAddr 56 (Operand.tmp 38) 1
      intro l hl vs W hS hR hp
      obtain rfl : l = [(0, 22), (1, 23), (2, 24), (3, 25), (4, 26), (5, 27), (6, 28), (7, 29), (8, 30), (9, 31), (10, 32), (11, 33), (12, 34), (13, 35), (14, 36), (15, 37), (16, 38)] := hl.symm.trans (by kernel_rfl)
      have p16 : vs 16 = _ := hp 16 (by decide) (by decide)
      clear hp hl
      refine opgoal (_) (some 39) rfl rfl fun K hK => ?_
      refine Runs.mk ?_
      simp only [putAll]
      go_simp
      refine hK _ _ ?_ (fun _ => hS) ⟨fun h => absurd h (by decide), fun _ => ((fun w => ⟨Below.refl _ _, Below.refl _ _⟩) W)⟩ _ rfl rfl
      first | rfl | go_simp | simp
    · -- 18: Op.store 47 (Operand.tmp 39) (Operand.tmp 37)
      intro l hl vs W hS hR hp
      obtain rfl : l = [(0, 22), (1, 23), (2, 24), (3, 25), (4, 26), (5, 27), (6, 28), (7, 29), (8, 30), (9, 31), (10, 32), (11, 33), (12, 34), (13, 35), (14, 36), (15, 37), (16, 38), (17, 39)] := hl.symm.trans (by kernel_rfl)
      have p15 : (fun v W => W.ownsRow w1.heap.size DPT 4 v (nL + 1) (FL ++ NW)) (vs 15) W := hp 15 (by decide) (by decide)
      dsimp only at p15
      have p17 : vs 17 = _ := hp 17 (by decide) (by decide)
      clear hp hl
      refine opgoal (_) (none) rfl rfl fun K hK => ?_
      obtain ⟨A', c', q15⟩ := own_form4 p15
      rw [q15] at p15
      have hb1 : W.cell? ⟨d, 1, none⟩ = some VV := cell_below hS HCL.out
      have hf1 : W.frozen? ⟨d, 1, none⟩ = false := (HD.out.below hS).cell.2.2.2.1
      refine Runs.mk ?_
      simp only [putAll]
      go_simp
      refine hK undef _ ?_ (fun h => absurd rfl h) ⟨fun _ => Lo.set _ _ _ _ _, fun h => absurd (by decide) h⟩ _ rfl rfl
      exact dd_fin HD.out hS p15 HE1.out.1 HE1.out.2
  · intro l hl vs W hR hp
    obtain rfl : l = [(0, 22), (1, 23), (2, 24), (3, 25), (4, 26), (5, 27), (6, 28), (7, 29), (8, 30), (9, 31), (10, 32), (11, 33), (12, 34), (13, 35), (14, 36), (15, 37), (16, 38), (17, 39)] := hl.symm.trans (by kernel_rfl)
    have p0 : vs 0 = _ := hp 0 (by decide) (by decide)
    have p2 : vs 2 = _ := hp 2 (by decide) (by decide)
    have p3 : vs 3 = _ := hp 3 (by decide) (by decide)
    have p4 : vs 4 = _ := hp 4 (by decide) (by decide)
    have p5 : vs 5 = _ := hp 5 (by decide) (by decide)
    have p7 : vs 7 = _ := hp 7 (by decide) (by decide)
    have p8 : vs 8 = _ := hp 8 (by decide) (by decide)
    have p9 : vs 9 = _ := hp 9 (by decide) (by decide)
    have p10 : vs 10 = _ := hp 10 (by decide) (by decide)
    have p11 : vs 11 = _ := hp 11 (by decide) (by decide)
    have p12 : vs 12 = _ := hp 12 (by decide) (by decide)
    have p13 : vs 13 = _ := hp 13 (by decide) (by decide)
    have p16 : vs 16 = _ := hp 16 (by decide) (by decide)
    have p17 : vs 17 = _ := hp 17 (by decide) (by decide)
    have p18 : (fun v W => ∃ v', Dd W d nodes v' L1 vC cs ∧ ∀ k, v'.ownBlock = some k → w1.heap.size ≤ k) (vs 18) W := hp 18 (by decide) (by decide)
    dsimp only at p18
    clear hp hl
    simp only [putAll_mk, setAll, List.setIfInBounds_toArray, List.set_cons_succ, List.set_cons_zero, p0, p2, p3, p4, p5, p7, p8, p9, p10, p11, p12, p13, p16, p17]
    have HE := Lib.hid p18
    have HR := Lib.hid hR
    clear p18 hR
    go_wp2
    go_ret
    exact ⟨rfl, HFIN.out _ HE.out HR.out⟩
end Go.Proofs.Ytbdcgfdchkbcnaa.Ne

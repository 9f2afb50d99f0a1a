/- the document's One, where it is done. -/
import Derived.Test.YtljdiaokjocfpaaLsO
namespace Go.Proofs.Ytljdiaokjocfpaa.Ls
open Go.RowKit Go.Proofs.Ytljdiaokjocfpaa.L Go.Proofs.Ytljdiaokjocfpaa.O Go.Proofs.Ytljdiaokjocfpaa.A Go.Proofs.Ytljdiaokjocfpaa.R Go.Proofs.Ytljdiaokjocfpaa.S Go.Proofs.Ytljdiaokjocfpaa.T
set_option linter.unusedVariables false
set_option linter.unusedSimpArgs false

/-- what a step leaves of all else: the row is the old one or a new one; other blocks are as they were. -/
structure Left (w : World) (bw : Nat) (A A' : Option Addr) (w' : World) : Prop where
  row : ∀ p, A' = some p → A = some p ∨ w.heap.size ≤ p.block
  low : Below bw w w'
  rest : ∀ k, k < w.heap.size → k ≠ bw → (∀ p, A = some p → p.block ≠ k) → w'.heap[k]? = w.heap[k]?
theorem Left.trans {w w1 w2 : World} {bw : Nat} {A A' A2 : Option Addr} (h : Left w bw A A' w1) (k : Left w1 bw A' A2 w2) (hs : w.heap.size ≤ w1.heap.size) : Left w bw A A2 w2 := by
  have hrow : ∀ p, A' = some p → A = some p ∨ w.heap.size ≤ p.block := h.row
  refine ⟨fun p hp => ?_, h.low.trans k.low, fun x hx hxb hxA => (k.rest x (by omega) hxb fun p hp => ?_).trans (h.rest x hx hxb hxA)⟩
  · rcases k.row p hp with h1 | h1
    · exact hrow p h1
    · exact .inr (by omega)
  · rcases hrow p hp with h1 | h1
    · exact hxA p h1
    · omega
theorem Left.of_below {w w1 : World} {bw : Nat} {A : Option Addr} (hb : Below w.heap.size w w1) (h : bw ≤ w.heap.size) : Left w bw A A w1 := ⟨fun p hp => .inl hp, hb.mono h, fun x hx _ _ => hb.block x hx⟩
def OnePost (w : World) (bw N : Nat) (A : Option Addr) (ds : List Dh) (e : Ending) (w' : World) : Prop :=
  e = .returned (.int .i64 0) ∧ ∃ A' ca', Doc w' bw N A' ca' ds ∧ Left w bw A A' w'
theorem own_ge {w : World} {B : Nat} {e : TypeId} {size n m c : Nat} {A : Option Addr} {xs : List Value} (h : w.ownsRow B e size (.slice A n c) m xs) : ∀ p, A = some p → B ≤ p.block := by
  rintro p rfl
  rcases h.2 with ⟨h1, _⟩ | ⟨g, cap, cur, h1, hb, _⟩
  · cases h1
  · injection h1 with h1; injection h1 with h1; subst h1; exact hb
theorem Doc.belowB {w w1 : World} {bw N B : Nat} {A : Option Addr} {ca : Nat} {ds : List Dh} (h : Doc w bw N A ca ds) (hb : Below w.heap.size w w1) : Below bw w w1 := hb.mono (Nat.le_of_lt h.lt)
theorem Doc.setU {w : World} {bw N g : Nat} {ca : Nat} {ds : List Dh} (h : Doc w bw N (some ⟨g, 0, none⟩) ca ds) (hg : bw < g) (k : Nat) (hk : k < ds.length) (u : Int) : Doc (w.setCell ⟨g, k * 5 + 4, none⟩ (.int .i64 u)) bw N (some ⟨g, 0, none⟩) ca (ds.set k { ds[k] with u := u }) ∧ Below bw w (w.setCell ⟨g, k * 5 + 4, none⟩ (.int .i64 u)) := by
  obtain ⟨h1, h2⟩ := h.own.stored (k * 5 + 4) (.int .i64 u)
  have hb : Below bw w (w.setCell ⟨g, k * 5 + 4, none⟩ (.int .i64 u)) := below_of_grown h2 (Nat.le_of_lt h.lt) fun x hx => by simp at hx; omega
  refine ⟨⟨?_, ?_, by rw [List.length_set]; exact h.len, h.N16⟩, hb⟩
  · rw [heap_setCell_other w ⟨g, k * 5 + 4, none⟩ bw _ (by simp; omega), List.length_set]; exact h.blk
  · rw [List.length_set, ← encD_setU ds k hk u]; exact h1
theorem take_lies {w : World} {bw N : Nat} {A : Option Addr} {ca : Nat} {ds : List Dh} (h : Doc w bw N A ca ds) (k : Nat) (hk : k ≤ ds.length) : LiesB w.heap.size bw w A (encD (ds.take k)) ∧ (A = none → k = 0 ∧ ca = 0) ∧ ds.length ≤ ca := by
  rcases h.own.2 with ⟨h1, h0⟩ | ⟨g, cap, cur, h1, hb, hg, hn, _⟩
  · injection h1 with h1 h2 h3
    subst h1; subst h3
    have hk0 : k = 0 := by omega
    subst hk0
    refine ⟨⟨fun h => absurd h (by simp [encD]), fun h => absurd h (by simp [encD])⟩, fun _ => ⟨rfl, rfl⟩, by omega⟩
  · injection h1 with h1 _ h2
    subst h1; subst h2
    refine ⟨⟨fun h0 => ⟨g, 0, rfl, fun j hj => ?_⟩, fun _ p hp => ?_⟩, fun h => (by cases h), hn⟩
    · have hl : j < k * 5 := by rw [encD_len, List.length_take] at hj; omega
      rw [Nat.zero_add, h.own.cellAt j (by omega), ← encD_take ds k hk, List.getElem?_take_of_lt hl]
    · cases hp
      exact ⟨(Array.getElem?_eq_some_iff.1 hg).1, by show g ≠ bw; omega⟩
def sub5 (A : Option Addr) (n k ca : Nat) : Option Addr := if ca = k then A else A.map (·.add (k * 5))
theorem drop_lies {w : World} {bw N : Nat} {A : Option Addr} {ca : Nat} {ds : List Dh} (h : Doc w bw N A ca ds) (k : Nat) (hk : k ≤ ds.length) : LiesB w.heap.size bw w (sub5 A ds.length k ca) (encD (ds.drop k)) ∧ (sub5 A ds.length k ca = none → ds.length - k = 0 ∧ ca - k = 0) := by
  rcases h.own.2 with ⟨h1, h0⟩ | ⟨g, cap, cur, h1, hb, hg, hn, _⟩
  · injection h1 with h1 h2 h3
    subst h1; subst h3
    have hk0 : k = 0 := by omega
    subst hk0
    have hl : (encD (ds.drop 0)).length = 0 := by rw [encD_len]; simp; omega
    refine ⟨⟨fun h => absurd h (by omega), fun h => absurd h (by omega)⟩, fun _ => ⟨by omega, rfl⟩⟩
  · injection h1 with h1 _ h2
    subst h1; subst h2
    by_cases hck : ca = k
    · have hl : (encD (ds.drop k)).length = 0 := by rw [encD_len]; simp; omega
      refine ⟨⟨fun h => absurd h (by omega), fun h => absurd h (by omega)⟩, fun hh => by simp [sub5, hck] at hh⟩
    · have he : sub5 (some ⟨g, 0, none⟩) ds.length k ca = some ⟨g, k * 5, none⟩ := by
        simp only [sub5, if_neg hck, Option.map_some]
        unfold Addr.add
        split <;> simp_all
      rw [he]
      refine ⟨⟨fun h0 => ⟨g, k * 5, rfl, fun j hj => ?_⟩, fun _ p hp => ?_⟩, fun h => by cases h⟩
      · have hl : k * 5 + j < ds.length * 5 := by rw [encD_len, List.length_drop] at hj; omega
        rw [h.own.cellAt _ hl, ← encD_drop ds k hk, List.getElem?_drop]
      · cases hp
        exact ⟨(Array.getElem?_eq_some_iff.1 hg).1, by show g ≠ bw; omega⟩
theorem pre_at (ds : List Dh) (c : Int) (k : Nat) (hk : k ≤ ds.length) (hlt : ∀ j, (h : j < ds.length) → j < k → ds[j].cell < c) (hge : ∀ h : k < ds.length, ¬ ds[k].cell < c) : pre ds c = k := by
  unfold pre
  induction ds generalizing k with
  | nil => simp at hk; simp [hk]
  | cons d ds ih =>
    cases k with
    | zero =>
      have := hge (by simp)
      simp only [List.getElem_cons_zero] at this
      rw [List.takeWhile_cons_of_neg (by simpa using this)]
      rfl
    | succ k =>
      have h0 := hlt 0 (by simp) (by omega)
      simp only [List.getElem_cons_zero] at h0
      rw [List.takeWhile_cons_of_pos (by simpa using h0), List.length_cons]
      rw [ih k (by simpa using hk) (fun j hj hjk => hlt (j + 1) (by simpa using hj) (by omega)) (fun h => hge (by simpa using h))]
theorem Doc.ins {w : World} {bw N B k : Nat} {A : Option Addr} {ca : Nat} {ds : List Dh} {d : Dh} (hb : w.heap[bw]? = some (.cells #[.int .i64 (N : Int), .slice A (k + 1 + (ds.length - k)) ca] 73 (0, 0)))
    (ho : w.ownsRow B 81 5 (.slice A (k + 1 + (ds.length - k)) ca) (k + 1 + (ds.length - k)) (encD (ds.take k) ++ d.enc ++ encD (ds.drop k))) (hB : bw < B) (hk : k ≤ ds.length) (hl : ds.length < 16) (hN : N ≤ 16) : Doc w bw N A ca (ds.take k ++ [d] ++ ds.drop k) := by
  have he : (ds.take k ++ [d] ++ ds.drop k).length = k + 1 + (ds.length - k) := by simp; omega
  refine ⟨by rw [he]; exact hb, ?_, by rw [he]; omega, hN⟩
  rw [he, encD_app, encD_app, encD_one]
  exact own_mono ho hB
theorem hold_sized (w : World) : (sizeOf (Try.prog.elem 71)).run Try.prog w = .ok 5 w := by kernel_rfl
theorem hold_sl : Try.prog.underlying 71 = some (.slice (Try.prog.elem 71)) := by kernel_rfl
theorem slice_lo (A : Option Addr) (n ca k : Nat) (hk : k ≤ ca) {w0 : World} {bw N : Nat} {ds : List Dh} (h : Doc w0 bw N A ca ds) (w : World) : (Instr.slice 71 (.slice A n ca) none (some (.int .i64 (k : Int))) none).run Try.prog w = .ok (.slice A k ca) w := by
  rw [run_slice_h w _ A n ca hold_sl .i64 k (by omega) (by omega), hold_sized]
  simp only [Result.andThen, sliced, Int.toNat_natCast, Nat.sub_zero, Nat.zero_mul]
  congr 2
  split
  · rfl
  · rcases h.own.2 with ⟨h1, h0⟩ | ⟨g, cap, cur, h1, _⟩
    · injection h1 with h1; subst h1; rfl
    · injection h1 with h1; subst h1
      simp only [Option.map_some, Addr.add]
      first | rfl | (split <;> simp_all)
theorem slice_hi (A : Option Addr) (n ca k : Nat) (hk : k ≤ n) (m : Nat) (w : World) : (Instr.slice 71 (.slice A n ca) (some (.int .i64 (k : Int))) none none).run Try.prog w = .ok (.slice (sub5 A m k ca) (n - k) (ca - k)) w := by
  rw [run_slice_l w _ A n ca hold_sl .i64 k (by omega) (by omega), hold_sized]
  simp only [Result.andThen, sliced, Int.toNat_natCast]
  rfl
set_option maxHeartbeats 40000000 in
set_option maxRecDepth 100000 in
theorem one_do (w : World) (bw N : Nat) (A : Option Addr) (ca : Nat) (ds : List Dh) (ta tb tc u c : Int) (h : Doc w bw N A ca ds) (hE : oneE N ds ta tb tc c = 0) (ds' : List Dh) (hS : oneS ds ta tb tc u c = ds') (hl' : ds'.length ≤ 16) :
    Calls Try.prog 37 #[.pointer (some ⟨bw, 0, none⟩), .agg #[.int .i64 ta, .int .i64 tb, .int .i64 tc], .int .i64 u, .int .i64 c, .bool true] w (OnePost w bw N A ds') := by
  obtain ⟨W, hW⟩ : ∃ W, Hid (w.alloc (.cells #[.int .i64 ta, .int .i64 tb, .int .i64 tc] 55) = W) := ⟨_, Lib.hid rfl⟩
  have hal : Below w.heap.size w W := by rw [← hW.out]; exact below_alloc _ _
  have hy : ∀ j, W.cell? ⟨w.heap.size, j, none⟩ = (#[Value.int .i64 ta, .int .i64 tb, .int .i64 tc] : Array Value)[j]? := by
    intro j
    rw [← hW.out]
    exact cell_alloc w #[.int .i64 ta, .int .i64 tb, .int .i64 tc] 55 j
  have y0 : W.cell? ⟨w.heap.size, 0, none⟩ = some (.int .i64 ta) := hy 0
  have y1 : W.cell? ⟨w.heap.size, 1, none⟩ = some (.int .i64 tb) := hy 1
  have y2 : W.cell? ⟨w.heap.size, 2, none⟩ = some (.int .i64 tc) := hy 2
  clear hy
  have hbw : Hid (Below bw w W) := Lib.hid (hal.mono (Nat.le_of_lt h.lt))
  have hD := Lib.hid (h.below hal)
  have c0 := h.c0
  have hbl := h.lt
  have hln := h.len
  have hN := h.N16
  clear h
  have hout : outB N c = false := by
    cases ho : outB N c with
    | false => rfl
    | true => simp [oneE, ho] at hE
  have hfo : foe ds ta tb tc c = false := by
    cases ho : foe ds ta tb tc c with
    | false => rfl
    | true => simp [oneE, hout, ho] at hE
  have h1 : ¬ c < 0 := by simp [outB] at hout; omega
  have h2 : ¬ (N : Int) ≤ c := by simp [outB] at hout; omega
  have d1 : decide (c < 0) = false := by simpa using h1
  have d2 : decide (c ≥ (N : Int)) = false := by simpa using h2
  have HS := Lib.hid hS
  clear hS hE
  rcases at_cases ds c with ha | ⟨k, hk, ha⟩
  · have HA := Lib.hid (at_any W bw N A ca ds c hD.out (-1) ha)
    have hS2 : Hid (ds.take (pre ds c) ++ [⟨c, ta, tb, tc, u⟩] ++ ds.drop (pre ds c) = ds') := Lib.hid (by rw [← HS.out]; simp [oneS, ha])
    obtain ⟨n, hn⟩ : ∃ n, Hid (ds.length = n) := ⟨_, Lib.hid rfl⟩
    have hn16 : n < 16 := by
      have h3 := congrArg List.length hS2.out
      simp at h3
      have h4 := hn.out
      omega
    go_enter Try.func37, Try.ntmps37
    go_wp2_with fail
    rw [hW.out]
    refine HA.out.mono ?_
    rintro e w1 ⟨rfl, rfl⟩
    have hDc := hD.out.c1
    rw [hn.out] at hDc
    go_wp2
    go_quiet (fail)
    go_wp2
    go_loopw [12] (fun i wr => ∃ k : Nat, k ≤ n ∧ i = .int .i64 k ∧ Below W.heap.size W wr ∧ Hid (∀ j, (h : j < ds.length) → j < k → ds[j].cell < c)) (fun i _ => n - (intOf i).toNat)
    case atStart => exact ⟨0, by omega, rfl, below_drewN _ _, Lib.hid fun j _ h => absurd h (by omega)⟩
    case round =>
      obtain ⟨k, hk, rfl, hb, hlo⟩ := hrel
      have z1 := cell_below hb hDc
      by_cases hlt : k < n
      · have hkl : k < ds.length := by rw [hn.out]; exact hlt
        obtain ⟨d, hd⟩ : ∃ d, Hid (ds[k] = d) := ⟨_, Lib.hid rfl⟩
        obtain ⟨g, hAg, hg1, hg2, e0, e1, e2, e3, e4⟩ := (hD.out.below hb).row k hkl d hd.out
        obtain ⟨dc, da, db, dd, du⟩ := d
        dsimp only at e0 e1 e2 e3 e4
        by_cases hc : dc < c
        · subst hAg
          have hstep : Hid (∀ j, (h : j < ds.length) → j < k + 1 → ds[j].cell < c) := Lib.hid fun j hj hjk => by
            by_cases e : j = k
            · subst e; rw [hd.out]; exact hc
            · exact hlo.out j hj (by omega)
          go_wp2
          go_roundw
          case rel => exact ⟨k + 1, by omega, by go_num, hb, hstep⟩
          case measure => simp [intOf]; omega
        · have hpre : Hid (pre ds c = k) := Lib.hid (pre_at ds c k (by omega) hlo.out (fun h => by rw [hd.out]; exact hc))
          clear hd
          subst hAg
          go_wp2_with fail
          obtain ⟨A, hAA⟩ : ∃ A : Option Addr, A = some ⟨g, 0, none⟩ := ⟨_, rfl⟩
          rw [← hAA] at hD hDc
          clear e0 e1 e2 e3 e4 hlt hAA z1
          have hDk := Lib.hid (hD.out.below (hb.drew (B := W.heap.size)))
          have hszk := hb.size
          have hwW := hbw.out
          have hS0 : SOk wr.heap.size bw (Obj.cells #[.int .i64 (N : Int), .slice A n ca] 73 (0, 0)) wr.drew := ⟨Nat.le_refl _, by rw [← hn.out]; exact hDk.out.blk, hDk.out.lt⟩
          have hkd : k ≤ ds.length := by rw [hn.out]; exact hk
          have hwl : w.heap.size < W.heap.size := World.block_lt_of_cell? _ _ y0
          obtain ⟨t1, t2, t3⟩ := take_lies hDk.out k hkd
          obtain ⟨t4, t5⟩ := drop_lies hDk.out k hkd
          have HL7 : Hid (LiesB wr.heap.size bw wr.drew A (encD (ds.take k))) := Lib.hid t1
          have HAk : Hid (A = none → k = 0 ∧ ca = 0) := Lib.hid t2
          have hnca : n ≤ ca := by rw [← hn.out]; exact t3
          obtain ⟨A2, hA2⟩ : ∃ A2, Hid (sub5 A ds.length k ca = A2) := ⟨_, Lib.hid rfl⟩
          obtain ⟨c2, hc2⟩ : ∃ c2, Hid (ca - k = c2) := ⟨_, Lib.hid rfl⟩
          rw [hA2.out] at t4 t5
          rw [hn.out, hc2.out] at t5
          have HL20 : Hid (LiesB wr.heap.size bw wr.drew A2 (encD (ds.drop k))) := Lib.hid t4
          have HA2 : Hid (A2 = none → n - k = 0 ∧ c2 = 0) := Lib.hid t5
          have Hl7 : Hid ((encD (ds.take k)).length = k * 5) := Lib.hid (by rw [encD_len, List.length_take, Nat.min_eq_left hkd])
          have Hl20 : Hid ((encD (ds.drop k)).length = (n - k) * 5) := Lib.hid (by rw [encD_len, List.length_drop, hn.out])
          have Hs7 : Hid (∀ w, (Instr.slice 71 (.slice A n ca) none (some (.int .i64 (k : Int))) none).run Try.prog w = .ok (.slice A k ca) w) := Lib.hid (slice_lo A n ca k (by omega) hDk.out)
          have Hs20 : Hid (∀ w, (Instr.slice 71 (.slice A n ca) (some (.int .i64 (k : Int))) none none).run Try.prog w = .ok (.slice A2 (n - k) c2) w) := Lib.hid (fun w => by have := slice_hi (A := A) n ca k hk ds.length w; rw [hA2.out, hc2.out] at this; exact this)
          have HB0 : Hid (wr.drew.cell? ⟨w.heap.size, 0, none⟩ = some (.int .i64 ta) ∧ w.heap.size < wr.heap.size ∧ w.heap.size ≠ bw) := Lib.hid ⟨cell_below hb y0, by omega, by omega⟩
          have HB1 : Hid (wr.drew.cell? ⟨w.heap.size, 1, none⟩ = some (.int .i64 tb) ∧ w.heap.size < wr.heap.size ∧ w.heap.size ≠ bw) := Lib.hid ⟨cell_below hb y1, by omega, by omega⟩
          have HB2 : Hid (wr.drew.cell? ⟨w.heap.size, 2, none⟩ = some (.int .i64 tc) ∧ w.heap.size < wr.heap.size ∧ w.heap.size ≠ bw) := Lib.hid ⟨cell_below hb y2, by omega, by omega⟩
          clear t1 t2 t3 t4 t5
          refine wp_region_last (SOk wr.heap.size bw (Obj.cells #[.int .i64 (N : Int), .slice A n ca] 73 (0, 0))) (Lo wr.heap.size bw) (fun k u v => ((k = 14 ∨ k = 21 ∨ k = 24) → (Lo wr.heap.size bw) u v) ∧ (¬ (k = 14 ∨ k = 21 ∨ k = 24) → (fun u v => Below u.heap.size u v ∧ Below wr.heap.size u v) u v)) (fun a i => match i with
              | 0 => (fun v _ => v = a.tmps.getD 0 undef)
              | 1 => (fun v w => ∃ A0, v = .slice A0 0 0 ∧ w.ownsRow wr.heap.size 81 5 v 0 [])
              | 2 => (fun v _ => v = a.tmps.getD 0 undef)
              | 3 => (fun v _ => v = .pointer (some ⟨bw, 0, none⟩))
              | 4 => (fun v _ => v = .pointer (some ⟨bw, 1, none⟩))
              | 5 => (fun v _ => v = .slice A n ca)
              | 6 => (fun v _ => v = a.tmps.getD 12 undef)
              | 7 => (fun v _ => v = .slice A k ca)
              | 8 => (fun v w => w.ownsRow wr.heap.size 81 5 v k (encD (ds.take k)))
              | 9 => (fun v _ => v = a.tmps.getD 3 undef)
              | 10 => (fun v _ => v = .agg #[.int .i64 ta, .int .i64 tb, .int .i64 tc])
              | 11 => (fun v _ => v = a.tmps.getD 2 undef)
              | 12 => (fun v _ => v = .agg #[.int .i64 c, .int .i64 ta, .int .i64 tb, .int .i64 tc, .int .i64 u])
              | 13 => (fun v w => ∃ g, v = .slice (some ⟨g, 0, none⟩) 1 1 ∧ g < w.heap.size ∧ w.heap[g]? = some (.cells #[.int .i64 c, .int .i64 ta, .int .i64 tb, .int .i64 tc, .int .i64 u] 81 (0, 0)))
              | 14 => (fun v w => w.ownsRow wr.heap.size 81 5 v (k + 1) (encD (ds.take k) ++ [.int .i64 c, .int .i64 ta, .int .i64 tb, .int .i64 tc, .int .i64 u]))
              | 15 => (fun v _ => v = a.tmps.getD 0 undef)
              | 16 => (fun v _ => v = .pointer (some ⟨bw, 0, none⟩))
              | 17 => (fun v _ => v = .pointer (some ⟨bw, 1, none⟩))
              | 18 => (fun v _ => v = .slice A n ca)
              | 19 => (fun v _ => v = a.tmps.getD 12 undef)
              | 20 => (fun v _ => v = .slice A2 (n - k) c2)
              | 21 => (fun v w => w.ownsRow wr.heap.size 81 5 v (k + 1 + (n - k)) (encD (ds.take k) ++ [.int .i64 c, .int .i64 ta, .int .i64 tb, .int .i64 tc, .int .i64 u] ++ encD (ds.drop k)))
              | 22 => (fun v _ => v = .pointer (some ⟨bw, 0, none⟩))
              | 23 => (fun v _ => v = .pointer (some ⟨bw, 1, none⟩))
              | 24 => (fun v w => ∃ A' c', w.heap[bw]? = some (.cells #[.int .i64 (N : Int), .slice A' (k + 1 + (n - k)) c'] 73 (0, 0)) ∧ w.ownsRow wr.heap.size 81 5 (.slice A' (k + 1 + (n - k)) c') (k + 1 + (n - k)) (encD (ds.take k) ++ [.int .i64 c, .int .i64 ta, .int .i64 tb, .int .i64 tc, .int .i64 u] ++ encD (ds.drop k)))
              | _ => (fun _ _ => True)) #[0, 0, 0, 4, 12, 28, 0, 124, 254, 0, 0, 0, 3584, 7680, 16382, 0, 32768, 98304, 229376, 0, 1015808, 2097150, 4194303, 8388607, 16777215] #[0, 0, 0, 4, 8, 16, 0, 96, 130, 0, 0, 0, 3584, 4096, 8448, 0, 32768, 65536, 131072, 0, 786432, 1064960, 1, 4194304, 10485760] 31432445 24 (by kernel_rfl) 25 rfl (by kernel_rfl) (fun m hm => by subst hm; kernel_rfl) (by kernel_rfl) (fun w => Lo.refl _ _ _) (fun u v w h1 h2 => Lo.trans h1 h2) ?_ ?_ (hS0) ?_ ?_
          · intro k u v hk hr
            by_cases hs : k = 14 ∨ k = 21 ∨ k = 24
            · have h := hr.1 hs; exact h
            · have h := hr.2 hs; exact h.2.lo
          · intro i hi hiz
            rcases (by omega : i = 0 ∨ i = 1 ∨ i = 2 ∨ i = 3 ∨ i = 4 ∨ i = 5 ∨ i = 6 ∨ i = 7 ∨ i = 8 ∨ i = 9 ∨ i = 10 ∨ i = 11 ∨ i = 12 ∨ i = 13 ∨ i = 14 ∨ i = 15 ∨ i = 16 ∨ i = 17 ∨ i = 18 ∨ i = 19 ∨ i = 20 ∨ i = 21 ∨ i = 22 ∨ i = 23 ∨ i = 24) with rfl | rfl | rfl | rfl | rfl | rfl | rfl | rfl | rfl | rfl | rfl | rfl | rfl | rfl | rfl | rfl | rfl | rfl | rfl | rfl | rfl | rfl | rfl | rfl | rfl
            · intro k hk q hq hqt v w w' h hr
              by_cases hs : k = 14 ∨ k = 21 ∨ k = 24
              · have hr0 := hr.1 hs
                rcases hs with rfl | rfl | rfl
                · exact (fun (h : _) (hr : _) => by exact h) h hr0
                · exact (fun (h : _) (hr : _) => by exact h) h hr0
                · exact (fun (h : _) (hr : _) => by exact h) h hr0
              · have hr := hr.2 hs
                exact h
            · intro k hk q hq hqt v w w' h hr
              by_cases hs : k = 14 ∨ k = 21 ∨ k = 24
              · have hr0 := hr.1 hs
                rcases hs with rfl | rfl | rfl
                · exact absurd (hq.trans hqt) (ne_true_of_eq_false (by kernel_rfl))
                · exact absurd (hq.trans hqt) (ne_true_of_eq_false (by kernel_rfl))
                · exact absurd (hq.trans hqt) (ne_true_of_eq_false (by kernel_rfl))
              · have hr := hr.2 hs
                obtain ⟨A0, h1, h2⟩ := h; exact ⟨A0, h1, own_kept h2 hr.1⟩
            · intro k hk q hq hqt v w w' h hr
              by_cases hs : k = 14 ∨ k = 21 ∨ k = 24
              · have hr0 := hr.1 hs
                rcases hs with rfl | rfl | rfl
                · exact (fun (h : _) (hr : _) => by exact h) h hr0
                · exact (fun (h : _) (hr : _) => by exact h) h hr0
                · exact (fun (h : _) (hr : _) => by exact h) h hr0
              · have hr := hr.2 hs
                exact h
            · intro k hk q hq hqt v w w' h hr
              by_cases hs : k = 14 ∨ k = 21 ∨ k = 24
              · have hr0 := hr.1 hs
                rcases hs with rfl | rfl | rfl
                · exact (fun (h : _) (hr : _) => by exact h) h hr0
                · exact (fun (h : _) (hr : _) => by exact h) h hr0
                · exact (fun (h : _) (hr : _) => by exact h) h hr0
              · have hr := hr.2 hs
                exact h
            · intro k hk q hq hqt v w w' h hr
              by_cases hs : k = 14 ∨ k = 21 ∨ k = 24
              · have hr0 := hr.1 hs
                rcases hs with rfl | rfl | rfl
                · exact (fun (h : _) (hr : _) => by exact h) h hr0
                · exact (fun (h : _) (hr : _) => by exact h) h hr0
                · exact (fun (h : _) (hr : _) => by exact h) h hr0
              · have hr := hr.2 hs
                exact h
            · intro k hk q hq hqt v w w' h hr
              by_cases hs : k = 14 ∨ k = 21 ∨ k = 24
              · have hr0 := hr.1 hs
                rcases hs with rfl | rfl | rfl
                · exact (fun (h : _) (hr : _) => by exact h) h hr0
                · exact (fun (h : _) (hr : _) => by exact h) h hr0
                · exact (fun (h : _) (hr : _) => by exact h) h hr0
              · have hr := hr.2 hs
                exact h
            · intro k hk q hq hqt v w w' h hr
              by_cases hs : k = 14 ∨ k = 21 ∨ k = 24
              · have hr0 := hr.1 hs
                rcases hs with rfl | rfl | rfl
                · exact (fun (h : _) (hr : _) => by exact h) h hr0
                · exact (fun (h : _) (hr : _) => by exact h) h hr0
                · exact (fun (h : _) (hr : _) => by exact h) h hr0
              · have hr := hr.2 hs
                exact h
            · intro k hk q hq hqt v w w' h hr
              by_cases hs : k = 14 ∨ k = 21 ∨ k = 24
              · have hr0 := hr.1 hs
                rcases hs with rfl | rfl | rfl
                · exact (fun (h : _) (hr : _) => by exact h) h hr0
                · exact (fun (h : _) (hr : _) => by exact h) h hr0
                · exact (fun (h : _) (hr : _) => by exact h) h hr0
              · have hr := hr.2 hs
                exact h
            · intro k hk q hq hqt v w w' h hr
              by_cases hs : k = 14 ∨ k = 21 ∨ k = 24
              · have hr0 := hr.1 hs
                rcases hs with rfl | rfl | rfl
                · exact absurd (hq.trans hqt) (ne_true_of_eq_false (by kernel_rfl))
                · exact absurd (hq.trans hqt) (ne_true_of_eq_false (by kernel_rfl))
                · exact absurd (hq.trans hqt) (ne_true_of_eq_false (by kernel_rfl))
              · have hr := hr.2 hs
                exact own_kept h hr.1
            · intro k hk q hq hqt v w w' h hr
              by_cases hs : k = 14 ∨ k = 21 ∨ k = 24
              · have hr0 := hr.1 hs
                rcases hs with rfl | rfl | rfl
                · exact (fun (h : _) (hr : _) => by exact h) h hr0
                · exact (fun (h : _) (hr : _) => by exact h) h hr0
                · exact (fun (h : _) (hr : _) => by exact h) h hr0
              · have hr := hr.2 hs
                exact h
            · intro k hk q hq hqt v w w' h hr
              by_cases hs : k = 14 ∨ k = 21 ∨ k = 24
              · have hr0 := hr.1 hs
                rcases hs with rfl | rfl | rfl
                · exact (fun (h : _) (hr : _) => by exact h) h hr0
                · exact (fun (h : _) (hr : _) => by exact h) h hr0
                · exact (fun (h : _) (hr : _) => by exact h) h hr0
              · have hr := hr.2 hs
                exact h
            · intro k hk q hq hqt v w w' h hr
              by_cases hs : k = 14 ∨ k = 21 ∨ k = 24
              · have hr0 := hr.1 hs
                rcases hs with rfl | rfl | rfl
                · exact (fun (h : _) (hr : _) => by exact h) h hr0
                · exact (fun (h : _) (hr : _) => by exact h) h hr0
                · exact (fun (h : _) (hr : _) => by exact h) h hr0
              · have hr := hr.2 hs
                exact h
            · intro k hk q hq hqt v w w' h hr
              by_cases hs : k = 14 ∨ k = 21 ∨ k = 24
              · have hr0 := hr.1 hs
                rcases hs with rfl | rfl | rfl
                · exact (fun (h : _) (hr : _) => by exact h) h hr0
                · exact (fun (h : _) (hr : _) => by exact h) h hr0
                · exact (fun (h : _) (hr : _) => by exact h) h hr0
              · have hr := hr.2 hs
                exact h
            · intro k hk q hq hqt v w w' h hr
              by_cases hs : k = 14 ∨ k = 21 ∨ k = 24
              · have hr0 := hr.1 hs
                rcases hs with rfl | rfl | rfl
                · exact absurd (hq.trans hqt) (ne_true_of_eq_false (by kernel_rfl))
                · exact absurd (hq.trans hqt) (ne_true_of_eq_false (by kernel_rfl))
                · exact absurd (hq.trans hqt) (ne_true_of_eq_false (by kernel_rfl))
              · have hr := hr.2 hs
                obtain ⟨g, h1, h2, h3⟩ := h; exact ⟨g, h1, Nat.lt_of_lt_of_le h2 hr.1.size, (hr.1.block g h2).trans h3⟩
            · intro k hk q hq hqt v w w' h hr
              by_cases hs : k = 14 ∨ k = 21 ∨ k = 24
              · have hr0 := hr.1 hs
                rcases hs with rfl | rfl | rfl
                · exact absurd (hq.trans hqt) (ne_true_of_eq_false (by kernel_rfl))
                · exact absurd (hq.trans hqt) (ne_true_of_eq_false (by kernel_rfl))
                · exact absurd (hq.trans hqt) (ne_true_of_eq_false (by kernel_rfl))
              · have hr := hr.2 hs
                exact own_kept h hr.1
            · intro k hk q hq hqt v w w' h hr
              by_cases hs : k = 14 ∨ k = 21 ∨ k = 24
              · have hr0 := hr.1 hs
                rcases hs with rfl | rfl | rfl
                · exact (fun (h : _) (hr : _) => by exact h) h hr0
                · exact (fun (h : _) (hr : _) => by exact h) h hr0
                · exact (fun (h : _) (hr : _) => by exact h) h hr0
              · have hr := hr.2 hs
                exact h
            · intro k hk q hq hqt v w w' h hr
              by_cases hs : k = 14 ∨ k = 21 ∨ k = 24
              · have hr0 := hr.1 hs
                rcases hs with rfl | rfl | rfl
                · exact (fun (h : _) (hr : _) => by exact h) h hr0
                · exact (fun (h : _) (hr : _) => by exact h) h hr0
                · exact (fun (h : _) (hr : _) => by exact h) h hr0
              · have hr := hr.2 hs
                exact h
            · intro k hk q hq hqt v w w' h hr
              by_cases hs : k = 14 ∨ k = 21 ∨ k = 24
              · have hr0 := hr.1 hs
                rcases hs with rfl | rfl | rfl
                · exact (fun (h : _) (hr : _) => by exact h) h hr0
                · exact (fun (h : _) (hr : _) => by exact h) h hr0
                · exact (fun (h : _) (hr : _) => by exact h) h hr0
              · have hr := hr.2 hs
                exact h
            · intro k hk q hq hqt v w w' h hr
              by_cases hs : k = 14 ∨ k = 21 ∨ k = 24
              · have hr0 := hr.1 hs
                rcases hs with rfl | rfl | rfl
                · exact (fun (h : _) (hr : _) => by exact h) h hr0
                · exact (fun (h : _) (hr : _) => by exact h) h hr0
                · exact (fun (h : _) (hr : _) => by exact h) h hr0
              · have hr := hr.2 hs
                exact h
            · intro k hk q hq hqt v w w' h hr
              by_cases hs : k = 14 ∨ k = 21 ∨ k = 24
              · have hr0 := hr.1 hs
                rcases hs with rfl | rfl | rfl
                · exact (fun (h : _) (hr : _) => by exact h) h hr0
                · exact (fun (h : _) (hr : _) => by exact h) h hr0
                · exact (fun (h : _) (hr : _) => by exact h) h hr0
              · have hr := hr.2 hs
                exact h
            · intro k hk q hq hqt v w w' h hr
              by_cases hs : k = 14 ∨ k = 21 ∨ k = 24
              · have hr0 := hr.1 hs
                rcases hs with rfl | rfl | rfl
                · exact (fun (h : _) (hr : _) => by exact h) h hr0
                · exact (fun (h : _) (hr : _) => by exact h) h hr0
                · exact (fun (h : _) (hr : _) => by exact h) h hr0
              · have hr := hr.2 hs
                exact h
            · intro k hk q hq hqt v w w' h hr
              by_cases hs : k = 14 ∨ k = 21 ∨ k = 24
              · have hr0 := hr.1 hs
                rcases hs with rfl | rfl | rfl
                · exact absurd (hq.trans hqt) (ne_true_of_eq_false (by kernel_rfl))
                · exact absurd (hq.trans hqt) (ne_true_of_eq_false (by kernel_rfl))
                · exact absurd (hq.trans hqt) (ne_true_of_eq_false (by kernel_rfl))
              · have hr := hr.2 hs
                exact own_kept h hr.1
            · intro k hk q hq hqt v w w' h hr
              by_cases hs : k = 14 ∨ k = 21 ∨ k = 24
              · have hr0 := hr.1 hs
                rcases hs with rfl | rfl | rfl
                · exact absurd (hq.trans hqt) (ne_true_of_eq_false (by kernel_rfl))
                · exact absurd (hq.trans hqt) (ne_true_of_eq_false (by kernel_rfl))
                · exact (fun (h : _) (hr : _) => by exact h) h hr0
              · have hr := hr.2 hs
                exact h
            · intro k hk q hq hqt v w w' h hr
              by_cases hs : k = 14 ∨ k = 21 ∨ k = 24
              · have hr0 := hr.1 hs
                rcases hs with rfl | rfl | rfl
                · exact absurd (hq.trans hqt) (ne_true_of_eq_false (by kernel_rfl))
                · exact absurd (hq.trans hqt) (ne_true_of_eq_false (by kernel_rfl))
                · exact (fun (h : _) (hr : _) => by exact h) h hr0
              · have hr := hr.2 hs
                exact h
            · exact absurd rfl hiz
          · intro i hi
            rcases (by omega : i = 0 ∨ i = 1 ∨ i = 2 ∨ i = 3 ∨ i = 4 ∨ i = 5 ∨ i = 6 ∨ i = 7 ∨ i = 8 ∨ i = 9 ∨ i = 10 ∨ i = 11 ∨ i = 12 ∨ i = 13 ∨ i = 14 ∨ i = 15 ∨ i = 16 ∨ i = 17 ∨ i = 18 ∨ i = 19 ∨ i = 20 ∨ i = 21 ∨ i = 22 ∨ i = 23 ∨ i = 24) with rfl | rfl | rfl | rfl | rfl | rfl | rfl | rfl | rfl | rfl | rfl | rfl | rfl | rfl | rfl | rfl | rfl | rfl | rfl | rfl | rfl | rfl | rfl | rfl | rfl
            · -- 0: Op.move (Operand.tmp 0)
              intro l hl vs W hS hR hp
              obtain rfl : l = [] := hl.symm.trans (by kernel_rfl)
              clear hp hl
              refine opgoal (_) (some 83) rfl rfl fun K hK => ?_
              refine Runs.mk ?_
              simp only [putAll]
              go_simp
              refine hK _ _ ?_ (fun _ => hS) ⟨fun h => absurd h (by decide), fun _ => ((fun w => ⟨Below.refl _ _, Below.refl _ _⟩) W)⟩ _ rfl rfl
              first | rfl | go_simp | simp
            · -- 1: Op.buildSlice 71 0 #[]
              intro l hl vs W hS hR hp
              obtain rfl : l = [] := hl.symm.trans (by kernel_rfl)
              clear hp hl
              refine opgoal (_) (some 84) rfl rfl fun K hK => ?_
              refine Runs.mk ?_
              simp only [putAll]
              go_simp
              refine hK _ _ ⟨_, rfl, ?_⟩ (fun _ => hS.below (below_alloc _ _)) ⟨fun h => absurd h (by decide), fun _ => ⟨below_alloc _ _, (below_alloc _ _).mono hS.1⟩⟩ _ rfl rfl
              exact World.ownsRow_lit (size := 5) W #[] 0 hS.1 (by decide) rfl
            · -- 2: Op.move (Operand.tmp 0)
              intro l hl vs W hS hR hp
              obtain rfl : l = [] := hl.symm.trans (by kernel_rfl)
              clear hp hl
              refine opgoal (_) (some 85) rfl rfl fun K hK => ?_
              refine Runs.mk ?_
              simp only [putAll]
              go_simp
              refine hK _ _ ?_ (fun _ => hS) ⟨fun h => absurd h (by decide), fun _ => ((fun w => ⟨Below.refl _ _, Below.refl _ _⟩) W)⟩ _ rfl rfl
              first | rfl | go_simp | simp
            · -- 3: Op.nilCheck (Operand.tmp 85)
              intro l hl vs W hS hR hp
              obtain rfl : l = [(2, 85)] := hl.symm.trans (by kernel_rfl)
              have p2 : vs 2 = _ := hp 2 (by decide) (by decide)
              clear hp hl
              refine opgoal (_) (some 86) rfl rfl fun K hK => ?_
              refine Runs.mk ?_
              simp only [putAll]
              go_simp
              refine hK _ _ ?_ (fun _ => hS) ⟨fun h => absurd h (by decide), fun _ => ((fun w => ⟨Below.refl _ _, Below.refl _ _⟩) W)⟩ _ rfl rfl
              first | rfl | go_simp | simp
            · -- 4: Op.fieldAddr 73 (Operand.tmp 86) 1
              intro l hl vs W hS hR hp
              obtain rfl : l = [(2, 85), (3, 86)] := hl.symm.trans (by kernel_rfl)
              have p3 : vs 3 = _ := hp 3 (by decide) (by decide)
              clear hp hl
              refine opgoal (_) (some 87) rfl rfl fun K hK => ?_
              refine Runs.mk ?_
              simp only [putAll]
              go_simp
              refine hK _ _ ?_ (fun _ => hS) ⟨fun h => absurd h (by decide), fun _ => ((fun w => ⟨Below.refl _ _, Below.refl _ _⟩) W)⟩ _ rfl rfl
              first | rfl | go_simp | simp
            · -- 5: Op.load 71 (Operand.tmp 87)
              intro l hl vs W hS hR hp
              obtain rfl : l = [(2, 85), (3, 86), (4, 87)] := hl.symm.trans (by kernel_rfl)
              have p4 : vs 4 = _ := hp 4 (by decide) (by decide)
              clear hp hl
              refine opgoal (_) (some 88) rfl rfl fun K hK => ?_
              have hb1 : W.cell? ⟨bw, 1, none⟩ = some (.slice A n ca) := by rw [cell_of_row W bw 1 _ _ _ hS.2.1]; rfl
              refine Runs.mk ?_
              simp only [putAll]
              go_simp
              refine hK _ _ ?_ (fun _ => hS) ⟨fun h => absurd h (by decide), fun _ => ((fun w => ⟨Below.refl _ _, Below.refl _ _⟩) W)⟩ _ rfl rfl
              first | rfl | go_simp | simp
            · -- 6: Op.move (Operand.tmp 12)
              intro l hl vs W hS hR hp
              obtain rfl : l = [] := hl.symm.trans (by kernel_rfl)
              clear hp hl
              refine opgoal (_) (some 89) rfl rfl fun K hK => ?_
              refine Runs.mk ?_
              simp only [putAll]
              go_simp
              refine hK _ _ ?_ (fun _ => hS) ⟨fun h => absurd h (by decide), fun _ => ((fun w => ⟨Below.refl _ _, Below.refl _ _⟩) W)⟩ _ rfl rfl
              first | rfl | go_simp | simp
            · -- 7: Op.slice 71 (Operand.tmp 88) none (some (Operand.tmp 89)) none
              intro l hl vs W hS hR hp
              obtain rfl : l = [(2, 85), (3, 86), (4, 87), (5, 88), (6, 89)] := hl.symm.trans (by kernel_rfl)
              have p5 : vs 5 = _ := hp 5 (by decide) (by decide)
              have p6 : vs 6 = _ := hp 6 (by decide) (by decide)
              clear hp hl
              refine opgoal (_) (some 90) rfl rfl fun K hK => ?_
              have hs7 := Hs7.out
              refine Runs.mk ?_
              simp only [putAll]
              go_simp
              refine hK _ _ ?_ (fun _ => hS) ⟨fun h => absurd h (by decide), fun _ => ((fun w => ⟨Below.refl _ _, Below.refl _ _⟩) W)⟩ _ rfl rfl
              first | rfl | go_simp | simp
            · -- 8: Op.call { callee := Callee.builtin Builtin.append, args := #[Operand.tmp 84, Operand.tmp 90], argTypes := #[71, 71] }
              intro l hl vs W hS hR hp
              obtain rfl : l = [(1, 84), (2, 85), (3, 86), (4, 87), (5, 88), (6, 89), (7, 90)] := hl.symm.trans (by kernel_rfl)
              have p1 : (fun v w => ∃ A0, v = .slice A0 0 0 ∧ w.ownsRow wr.heap.size 81 5 v 0 []) (vs 1) W := hp 1 (by decide) (by decide)
              dsimp only at p1
              have p7 : vs 7 = _ := hp 7 (by decide) (by decide)
              clear hp hl
              refine opgoal ({ dst := some 91, op := Op.call { callee := Callee.builtin Builtin.append, args := #[Operand.tmp 84, Operand.tmp 90], argTypes := #[71, 71] }, type := 71, pos := "ref.go:51", after := #[{ on := 1, ground := Ground.data }, { on := 7, ground := Ground.data }], guard := none }) (some 91) rfl rfl fun K hK => ?_
              obtain ⟨A0, q1, o1⟩ := p1
              rw [q1] at o1
              refine runs_append_fresh W (wanted_none rfl) (.tmp 84) (.tmp 90) wr.heap.size 71 81 (.agg #[.int .i64 0, .int .i64 0, .int .i64 0, .int .i64 0, .int .i64 0]) 5 40 rfl (by kernel_rfl) (by kernel_rfl) rfl (by decide) (by decide) A0 (by simp [putAll, Act.put, Act.eval, q1]) o1 A k ca (by simp [putAll, Act.put, Act.eval, p7]) HAk.out (encD (ds.take k)) Hl7.out (HL7.out.lo hR) (encD_cells _) (by omega) hS.1 ?_
              intro v' w' h1 h2
              exact hK _ _ h1 (fun _ => hS.below h2) ⟨fun h => absurd h (by decide), fun _ => ⟨h2, h2.mono hS.1⟩⟩ _ put_dfs (put_slot (by simp))
            · -- 9: Op.move (Operand.tmp 3)
              intro l hl vs W hS hR hp
              obtain rfl : l = [] := hl.symm.trans (by kernel_rfl)
              clear hp hl
              refine opgoal (_) (some 92) rfl rfl fun K hK => ?_
              refine Runs.mk ?_
              simp only [putAll]
              go_simp
              refine hK _ _ ?_ (fun _ => hS) ⟨fun h => absurd h (by decide), fun _ => ((fun w => ⟨Below.refl _ _, Below.refl _ _⟩) W)⟩ _ rfl rfl
              first | rfl | go_simp | simp
            · -- 10: Op.load 55 (Operand.tmp 6)
              intro l hl vs W hS hR hp
              obtain rfl : l = [] := hl.symm.trans (by kernel_rfl)
              clear hp hl
              refine opgoal (_) (some 93) rfl rfl fun K hK => ?_
              have b0 := hR.cell_eq HB0.out
              have b1 := hR.cell_eq HB1.out
              have b2 := hR.cell_eq HB2.out
              refine Runs.mk ?_
              simp only [putAll]
              go_simp
              refine hK _ _ ?_ (fun _ => hS) ⟨fun h => absurd h (by decide), fun _ => ((fun w => ⟨Below.refl _ _, Below.refl _ _⟩) W)⟩ _ rfl rfl
              first | rfl | go_simp | simp
            · -- 11: Op.move (Operand.tmp 2)
              intro l hl vs W hS hR hp
              obtain rfl : l = [] := hl.symm.trans (by kernel_rfl)
              clear hp hl
              refine opgoal (_) (some 94) rfl rfl fun K hK => ?_
              refine Runs.mk ?_
              simp only [putAll]
              go_simp
              refine hK _ _ ?_ (fun _ => hS) ⟨fun h => absurd h (by decide), fun _ => ((fun w => ⟨Below.refl _ _, Below.refl _ _⟩) W)⟩ _ rfl rfl
              first | rfl | go_simp | simp
            · -- 12: Op.build 81 #[(0, Operand.tmp 92), (1, Operand.tmp 93), (2, Operand.tmp 94)]
              intro l hl vs W hS hR hp
              obtain rfl : l = [(9, 92), (10, 93), (11, 94)] := hl.symm.trans (by kernel_rfl)
              have p9 : vs 9 = _ := hp 9 (by decide) (by decide)
              have p10 : vs 10 = _ := hp 10 (by decide) (by decide)
              have p11 : vs 11 = _ := hp 11 (by decide) (by decide)
              clear hp hl
              refine opgoal (_) (some 95) rfl rfl fun K hK => ?_
              refine Runs.mk ?_
              simp only [putAll]
              go_simp
              refine hK _ _ ?_ (fun _ => hS) ⟨fun h => absurd h (by decide), fun _ => ((fun w => ⟨Below.refl _ _, Below.refl _ _⟩) W)⟩ _ rfl rfl
              first | rfl | go_simp | simp
            · -- 13: Op.buildSlice 71 1 #[(0, Operand.tmp 95)]
              intro l hl vs W hS hR hp
              obtain rfl : l = [(9, 92), (10, 93), (11, 94), (12, 95)] := hl.symm.trans (by kernel_rfl)
              have p12 : vs 12 = _ := hp 12 (by decide) (by decide)
              clear hp hl
              refine opgoal (_) (some 96) rfl rfl fun K hK => ?_
              refine Runs.mk ?_
              simp only [putAll]
              go_simp
              refine hK _ _ ⟨W.heap.size, rfl, by simp, heap_alloc_new _ _⟩ (fun _ => hS.below (below_alloc _ _)) ⟨fun h => absurd h (by decide), fun _ => ⟨below_alloc _ _, (below_alloc _ _).mono hS.1⟩⟩ _ rfl rfl
            · -- 14: Op.call { callee := Callee.builtin Builtin.append, args := #[Operand.tmp 91, Operand.tmp 96], argTypes := #[71, 71] }
              intro l hl vs W hS hR hp
              obtain rfl : l = [(1, 84), (2, 85), (3, 86), (4, 87), (5, 88), (6, 89), (7, 90), (8, 91), (9, 92), (10, 93), (11, 94), (12, 95), (13, 96)] := hl.symm.trans (by kernel_rfl)
              have p8 : (fun v w => w.ownsRow wr.heap.size 81 5 v k (encD (ds.take k))) (vs 8) W := hp 8 (by decide) (by decide)
              dsimp only at p8
              have p13 : (fun v w => ∃ g, v = .slice (some ⟨g, 0, none⟩) 1 1 ∧ g < w.heap.size ∧ w.heap[g]? = some (.cells #[.int .i64 c, .int .i64 ta, .int .i64 tb, .int .i64 tc, .int .i64 u] 81 (0, 0))) (vs 13) W := hp 13 (by decide) (by decide)
              dsimp only at p13
              clear hp hl
              refine opgoal ({ dst := some 97, op := Op.call { callee := Callee.builtin Builtin.append, args := #[Operand.tmp 91, Operand.tmp 96], argTypes := #[71, 71] }, type := 71, pos := "ref.go:51", after := #[{ on := 8, ground := Ground.data }, { on := 13, ground := Ground.data }, { on := 8, ground := Ground.chain }], guard := none }) (some 97) rfl rfl fun K hK => ?_
              obtain ⟨g, q13, l13, b13⟩ := p13
              refine runs_append_src W (wanted_none rfl) (.tmp 91) (.tmp 96) wr.heap.size 71 81 (.agg #[.int .i64 0, .int .i64 0, .int .i64 0, .int .i64 0, .int .i64 0]) 5 40 rfl (by kernel_rfl) (by kernel_rfl) rfl (by decide) (by decide) (vs 8) k _ (by simp [putAll, Act.put, Act.eval]) p8 (some ⟨g, 0, none⟩) 1 1 (by simp [putAll, Act.put, Act.eval, q13]) (fun h => by cases h) [.int .i64 c, .int .i64 ta, .int .i64 tb, .int .i64 tc, .int .i64 u] rfl (lies_block b13) (by simp [Value.oneCell']) (by omega) hS.1 ?_
              intro v' w' h1 h2 h3
              exact hK _ _ h1 (fun _ => hS.grown h2 p8) ⟨fun _ => (below_of_grown h2 hS.1 (fun k hk => (own_lt p8 k hk).1)).lo, fun h => absurd (by decide) h⟩ _ put_dfs (put_slot (by simp))
            · -- 15: Op.move (Operand.tmp 0)
              intro l hl vs W hS hR hp
              obtain rfl : l = [] := hl.symm.trans (by kernel_rfl)
              clear hp hl
              refine opgoal (_) (some 98) rfl rfl fun K hK => ?_
              refine Runs.mk ?_
              simp only [putAll]
              go_simp
              refine hK _ _ ?_ (fun _ => hS) ⟨fun h => absurd h (by decide), fun _ => ((fun w => ⟨Below.refl _ _, Below.refl _ _⟩) W)⟩ _ rfl rfl
              first | rfl | go_simp | simp
            · -- 16: Op.nilCheck (Operand.tmp 98)
              intro l hl vs W hS hR hp
              obtain rfl : l = [(15, 98)] := hl.symm.trans (by kernel_rfl)
              have p15 : vs 15 = _ := hp 15 (by decide) (by decide)
              clear hp hl
              refine opgoal (_) (some 99) rfl rfl fun K hK => ?_
              refine Runs.mk ?_
              simp only [putAll]
              go_simp
              refine hK _ _ ?_ (fun _ => hS) ⟨fun h => absurd h (by decide), fun _ => ((fun w => ⟨Below.refl _ _, Below.refl _ _⟩) W)⟩ _ rfl rfl
              first | rfl | go_simp | simp
            · -- 17: Op.fieldAddr 73 (Operand.tmp 99) 1
              intro l hl vs W hS hR hp
              obtain rfl : l = [(15, 98), (16, 99)] := hl.symm.trans (by kernel_rfl)
              have p16 : vs 16 = _ := hp 16 (by decide) (by decide)
              clear hp hl
              refine opgoal (_) (some 100) rfl rfl fun K hK => ?_
              refine Runs.mk ?_
              simp only [putAll]
              go_simp
              refine hK _ _ ?_ (fun _ => hS) ⟨fun h => absurd h (by decide), fun _ => ((fun w => ⟨Below.refl _ _, Below.refl _ _⟩) W)⟩ _ rfl rfl
              first | rfl | go_simp | simp
            · -- 18: Op.load 71 (Operand.tmp 100)
              intro l hl vs W hS hR hp
              obtain rfl : l = [(15, 98), (16, 99), (17, 100)] := hl.symm.trans (by kernel_rfl)
              have p17 : vs 17 = _ := hp 17 (by decide) (by decide)
              clear hp hl
              refine opgoal (_) (some 101) rfl rfl fun K hK => ?_
              have hb1 : W.cell? ⟨bw, 1, none⟩ = some (.slice A n ca) := by rw [cell_of_row W bw 1 _ _ _ hS.2.1]; rfl
              refine Runs.mk ?_
              simp only [putAll]
              go_simp
              refine hK _ _ ?_ (fun _ => hS) ⟨fun h => absurd h (by decide), fun _ => ((fun w => ⟨Below.refl _ _, Below.refl _ _⟩) W)⟩ _ rfl rfl
              first | rfl | go_simp | simp
            · -- 19: Op.move (Operand.tmp 12)
              intro l hl vs W hS hR hp
              obtain rfl : l = [] := hl.symm.trans (by kernel_rfl)
              clear hp hl
              refine opgoal (_) (some 102) rfl rfl fun K hK => ?_
              refine Runs.mk ?_
              simp only [putAll]
              go_simp
              refine hK _ _ ?_ (fun _ => hS) ⟨fun h => absurd h (by decide), fun _ => ((fun w => ⟨Below.refl _ _, Below.refl _ _⟩) W)⟩ _ rfl rfl
              first | rfl | go_simp | simp
            · -- 20: Op.slice 71 (Operand.tmp 101) (some (Operand.tmp 102)) none none
              intro l hl vs W hS hR hp
              obtain rfl : l = [(15, 98), (16, 99), (17, 100), (18, 101), (19, 102)] := hl.symm.trans (by kernel_rfl)
              have p18 : vs 18 = _ := hp 18 (by decide) (by decide)
              have p19 : vs 19 = _ := hp 19 (by decide) (by decide)
              clear hp hl
              refine opgoal (_) (some 103) rfl rfl fun K hK => ?_
              have hs20 := Hs20.out
              refine Runs.mk ?_
              simp only [putAll]
              go_simp
              refine hK _ _ ?_ (fun _ => hS) ⟨fun h => absurd h (by decide), fun _ => ((fun w => ⟨Below.refl _ _, Below.refl _ _⟩) W)⟩ _ rfl rfl
              first | rfl | go_simp | simp
            · -- 21: Op.call { callee := Callee.builtin Builtin.append, args := #[Operand.tmp 97, Operand.tmp 103], argTypes := #[71, 71] }
              intro l hl vs W hS hR hp
              obtain rfl : l = [(1, 84), (2, 85), (3, 86), (4, 87), (5, 88), (6, 89), (7, 90), (8, 91), (9, 92), (10, 93), (11, 94), (12, 95), (13, 96), (14, 97), (15, 98), (16, 99), (17, 100), (18, 101), (19, 102), (20, 103)] := hl.symm.trans (by kernel_rfl)
              have p14 : (fun v w => w.ownsRow wr.heap.size 81 5 v (k + 1) (encD (ds.take k) ++ [.int .i64 c, .int .i64 ta, .int .i64 tb, .int .i64 tc, .int .i64 u])) (vs 14) W := hp 14 (by decide) (by decide)
              dsimp only at p14
              have p20 : vs 20 = _ := hp 20 (by decide) (by decide)
              clear hp hl
              refine opgoal ({ dst := some 104, op := Op.call { callee := Callee.builtin Builtin.append, args := #[Operand.tmp 97, Operand.tmp 103], argTypes := #[71, 71] }, type := 71, pos := "ref.go:51", after := #[{ on := 14, ground := Ground.data }, { on := 20, ground := Ground.data }, { on := 14, ground := Ground.chain }], guard := none }) (some 104) rfl rfl fun K hK => ?_
              refine runs_append_src W (wanted_none rfl) (.tmp 97) (.tmp 103) wr.heap.size 71 81 (.agg #[.int .i64 0, .int .i64 0, .int .i64 0, .int .i64 0, .int .i64 0]) 5 40 rfl (by kernel_rfl) (by kernel_rfl) rfl (by decide) (by decide) (vs 14) (k + 1) _ (by simp [putAll, Act.put, Act.eval]) p14 A2 (n - k) c2 (by simp [putAll, Act.put, Act.eval, p20]) HA2.out (encD (ds.drop k)) Hl20.out (HL20.out.lo hR) (encD_cells _) (by omega) hS.1 ?_
              intro v' w' h1 h2 h3
              exact hK _ _ h1 (fun _ => hS.grown h2 p14) ⟨fun _ => (below_of_grown h2 hS.1 (fun k hk => (own_lt p14 k hk).1)).lo, fun h => absurd (by decide) h⟩ _ put_dfs (put_slot (by simp))
            · -- 22: Op.nilCheck (Operand.tmp 83)
              intro l hl vs W hS hR hp
              obtain rfl : l = [(0, 83), (1, 84), (2, 85), (3, 86), (4, 87), (5, 88), (6, 89), (7, 90), (8, 91), (9, 92), (10, 93), (11, 94), (12, 95), (13, 96), (14, 97), (15, 98), (16, 99), (17, 100), (18, 101), (19, 102), (20, 103), (21, 104)] := hl.symm.trans (by kernel_rfl)
              have p0 : vs 0 = _ := hp 0 (by decide) (by decide)
              clear hp hl
              refine opgoal (_) (some 105) rfl rfl fun K hK => ?_
              refine Runs.mk ?_
              simp only [putAll]
              go_simp
              refine hK _ _ ?_ (fun _ => hS) ⟨fun h => absurd h (by decide), fun _ => ((fun w => ⟨Below.refl _ _, Below.refl _ _⟩) W)⟩ _ rfl rfl
              first | rfl | go_simp | simp
            · -- 23: Op.fieldAddr 73 (Operand.tmp 105) 1
              intro l hl vs W hS hR hp
              obtain rfl : l = [(0, 83), (1, 84), (2, 85), (3, 86), (4, 87), (5, 88), (6, 89), (7, 90), (8, 91), (9, 92), (10, 93), (11, 94), (12, 95), (13, 96), (14, 97), (15, 98), (16, 99), (17, 100), (18, 101), (19, 102), (20, 103), (21, 104), (22, 105)] := hl.symm.trans (by kernel_rfl)
              have p22 : vs 22 = _ := hp 22 (by decide) (by decide)
              clear hp hl
              refine opgoal (_) (some 106) rfl rfl fun K hK => ?_
              refine Runs.mk ?_
              simp only [putAll]
              go_simp
              refine hK _ _ ?_ (fun _ => hS) ⟨fun h => absurd h (by decide), fun _ => ((fun w => ⟨Below.refl _ _, Below.refl _ _⟩) W)⟩ _ rfl rfl
              first | rfl | go_simp | simp
            · -- 24: Op.store 71 (Operand.tmp 106) (Operand.tmp 104)
              intro l hl vs W hS hR hp
              obtain rfl : l = [(0, 83), (1, 84), (2, 85), (3, 86), (4, 87), (5, 88), (6, 89), (7, 90), (8, 91), (9, 92), (10, 93), (11, 94), (12, 95), (13, 96), (14, 97), (15, 98), (16, 99), (17, 100), (18, 101), (19, 102), (20, 103), (21, 104), (22, 105), (23, 106)] := hl.symm.trans (by kernel_rfl)
              have p21 : (fun v w => w.ownsRow wr.heap.size 81 5 v (k + 1 + (n - k)) (encD (ds.take k) ++ [.int .i64 c, .int .i64 ta, .int .i64 tb, .int .i64 tc, .int .i64 u] ++ encD (ds.drop k))) (vs 21) W := hp 21 (by decide) (by decide)
              dsimp only at p21
              have p23 : vs 23 = _ := hp 23 (by decide) (by decide)
              clear hp hl
              refine opgoal (_) (none) rfl rfl fun K hK => ?_
              obtain ⟨A', c', q21⟩ := own_form p21
              rw [q21] at p21
              have hb1 : W.cell? ⟨bw, 1, none⟩ = some (.slice A n ca) := by rw [cell_of_row W bw 1 _ _ _ hS.2.1]; rfl
              have hf1 : W.frozen? ⟨bw, 1, none⟩ = false := frozen_of_row W _ _ _ _ hS.2.1
              refine Runs.mk ?_
              simp only [putAll]
              go_simp
              refine hK undef _ ⟨A', c', ?_, ?_⟩ (fun h => absurd rfl h) ⟨fun _ => ?_, fun h => absurd (by decide) h⟩ _ rfl rfl
              · exact (heap_setCell_at W bw 1 _ _ _ _ hS.2.1).trans rfl
              · exact ownsRow_setCell_below p21 hS.2.2 _
              · exact Lo.setCell _ _ _ _ _
          · intro l hl vs W hR hp
            obtain rfl : l = [(0, 83), (1, 84), (2, 85), (3, 86), (4, 87), (5, 88), (6, 89), (7, 90), (8, 91), (9, 92), (10, 93), (11, 94), (12, 95), (13, 96), (14, 97), (15, 98), (16, 99), (17, 100), (18, 101), (19, 102), (20, 103), (21, 104), (22, 105), (23, 106)] := hl.symm.trans (by kernel_rfl)
            have p0 : vs 0 = _ := hp 0 (by decide) (by decide)
            have p2 : vs 2 = _ := hp 2 (by decide) (by decide)
            have p3 : vs 3 = _ := hp 3 (by decide) (by decide)
            have p4 : vs 4 = _ := hp 4 (by decide) (by decide)
            have p5 : vs 5 = _ := hp 5 (by decide) (by decide)
            have p6 : vs 6 = _ := hp 6 (by decide) (by decide)
            have p7 : vs 7 = _ := hp 7 (by decide) (by decide)
            have p9 : vs 9 = _ := hp 9 (by decide) (by decide)
            have p10 : vs 10 = _ := hp 10 (by decide) (by decide)
            have p11 : vs 11 = _ := hp 11 (by decide) (by decide)
            have p12 : vs 12 = _ := hp 12 (by decide) (by decide)
            have p15 : vs 15 = _ := hp 15 (by decide) (by decide)
            have p16 : vs 16 = _ := hp 16 (by decide) (by decide)
            have p17 : vs 17 = _ := hp 17 (by decide) (by decide)
            have p18 : vs 18 = _ := hp 18 (by decide) (by decide)
            have p19 : vs 19 = _ := hp 19 (by decide) (by decide)
            have p20 : vs 20 = _ := hp 20 (by decide) (by decide)
            have p22 : vs 22 = _ := hp 22 (by decide) (by decide)
            have p23 : vs 23 = _ := hp 23 (by decide) (by decide)
            have p24 : (fun v w => ∃ A' c', w.heap[bw]? = some (.cells #[.int .i64 (N : Int), .slice A' (k + 1 + (n - k)) c'] 73 (0, 0)) ∧ w.ownsRow wr.heap.size 81 5 (.slice A' (k + 1 + (n - k)) c') (k + 1 + (n - k)) (encD (ds.take k) ++ [.int .i64 c, .int .i64 ta, .int .i64 tb, .int .i64 tc, .int .i64 u] ++ encD (ds.drop k))) (vs 24) W := hp 24 (by decide) (by decide)
            dsimp only at p24
            clear hp hl
            simp only [putAll_mk, setAll, List.setIfInBounds_toArray, List.set_cons_succ, List.set_cons_zero, p0, p2, p3, p4, p5, p6, p7, p9, p10, p11, p12, p15, p16, p17, p18, p19, p20, p22, p23]
            obtain ⟨A', c', hb', ho'⟩ := p24
            have hfin := Doc.ins (d := ⟨c, ta, tb, tc, u⟩) (by rw [hn.out]; exact hb') (by rw [hn.out]; exact ho') (by omega) hkd (by rw [hn.out]; exact hn16) hN
            rw [← hpre.out, hS2.out] at hfin
            have HF := Lib.hid hfin
            have HG := Lib.hid (own_ge ho')
            clear hb' ho' hfin
            go_wp2
            go_ret
            exact ⟨rfl, _, _, HF.out, fun p hp => .inr (by have := HG.out p hp; omega), hbw.out.trans ((hb.drew.mono (by omega)).trans (hR.below (b' := bw) (Nat.le_refl _) (by omega))), fun x hx hxb hxA => (hR.block x (by omega) hxb).trans ((hb.block x (by omega)).trans (hal.block x hx))⟩
      · have hpre : Hid (pre ds c = k) := Lib.hid (pre_at ds c k (by rw [hn.out]; omega) hlo.out (fun h => absurd h (by rw [hn.out]; omega)))
        go_wp2_with fail
        clear hlt z1
        have hDk := Lib.hid (hD.out.below (hb.drew (B := W.heap.size)))
        have hszk := hb.size
        have hwW := hbw.out
        have hS0 : SOk wr.heap.size bw (Obj.cells #[.int .i64 (N : Int), .slice A n ca] 73 (0, 0)) wr.drew := ⟨Nat.le_refl _, by rw [← hn.out]; exact hDk.out.blk, hDk.out.lt⟩
        have hkd : k ≤ ds.length := by rw [hn.out]; exact hk
        have hwl : w.heap.size < W.heap.size := World.block_lt_of_cell? _ _ y0
        obtain ⟨t1, t2, t3⟩ := take_lies hDk.out k hkd
        obtain ⟨t4, t5⟩ := drop_lies hDk.out k hkd
        have HL7 : Hid (LiesB wr.heap.size bw wr.drew A (encD (ds.take k))) := Lib.hid t1
        have HAk : Hid (A = none → k = 0 ∧ ca = 0) := Lib.hid t2
        have hnca : n ≤ ca := by rw [← hn.out]; exact t3
        obtain ⟨A2, hA2⟩ : ∃ A2, Hid (sub5 A ds.length k ca = A2) := ⟨_, Lib.hid rfl⟩
        obtain ⟨c2, hc2⟩ : ∃ c2, Hid (ca - k = c2) := ⟨_, Lib.hid rfl⟩
        rw [hA2.out] at t4 t5
        rw [hn.out, hc2.out] at t5
        have HL20 : Hid (LiesB wr.heap.size bw wr.drew A2 (encD (ds.drop k))) := Lib.hid t4
        have HA2 : Hid (A2 = none → n - k = 0 ∧ c2 = 0) := Lib.hid t5
        have Hl7 : Hid ((encD (ds.take k)).length = k * 5) := Lib.hid (by rw [encD_len, List.length_take, Nat.min_eq_left hkd])
        have Hl20 : Hid ((encD (ds.drop k)).length = (n - k) * 5) := Lib.hid (by rw [encD_len, List.length_drop, hn.out])
        have Hs7 : Hid (∀ w, (Instr.slice 71 (.slice A n ca) none (some (.int .i64 (k : Int))) none).run Try.prog w = .ok (.slice A k ca) w) := Lib.hid (slice_lo A n ca k (by omega) hDk.out)
        have Hs20 : Hid (∀ w, (Instr.slice 71 (.slice A n ca) (some (.int .i64 (k : Int))) none none).run Try.prog w = .ok (.slice A2 (n - k) c2) w) := Lib.hid (fun w => by have := slice_hi (A := A) n ca k hk ds.length w; rw [hA2.out, hc2.out] at this; exact this)
        have HB0 : Hid (wr.drew.cell? ⟨w.heap.size, 0, none⟩ = some (.int .i64 ta) ∧ w.heap.size < wr.heap.size ∧ w.heap.size ≠ bw) := Lib.hid ⟨cell_below hb y0, by omega, by omega⟩
        have HB1 : Hid (wr.drew.cell? ⟨w.heap.size, 1, none⟩ = some (.int .i64 tb) ∧ w.heap.size < wr.heap.size ∧ w.heap.size ≠ bw) := Lib.hid ⟨cell_below hb y1, by omega, by omega⟩
        have HB2 : Hid (wr.drew.cell? ⟨w.heap.size, 2, none⟩ = some (.int .i64 tc) ∧ w.heap.size < wr.heap.size ∧ w.heap.size ≠ bw) := Lib.hid ⟨cell_below hb y2, by omega, by omega⟩
        clear t1 t2 t3 t4 t5
        refine wp_region_last (SOk wr.heap.size bw (Obj.cells #[.int .i64 (N : Int), .slice A n ca] 73 (0, 0))) (Lo wr.heap.size bw) (fun k u v => ((k = 14 ∨ k = 21 ∨ k = 24) → (Lo wr.heap.size bw) u v) ∧ (¬ (k = 14 ∨ k = 21 ∨ k = 24) → (fun u v => Below u.heap.size u v ∧ Below wr.heap.size u v) u v)) (fun a i => match i with
            | 0 => (fun v _ => v = a.tmps.getD 0 undef)
            | 1 => (fun v w => ∃ A0, v = .slice A0 0 0 ∧ w.ownsRow wr.heap.size 81 5 v 0 [])
            | 2 => (fun v _ => v = a.tmps.getD 0 undef)
            | 3 => (fun v _ => v = .pointer (some ⟨bw, 0, none⟩))
            | 4 => (fun v _ => v = .pointer (some ⟨bw, 1, none⟩))
            | 5 => (fun v _ => v = .slice A n ca)
            | 6 => (fun v _ => v = a.tmps.getD 12 undef)
            | 7 => (fun v _ => v = .slice A k ca)
            | 8 => (fun v w => w.ownsRow wr.heap.size 81 5 v k (encD (ds.take k)))
            | 9 => (fun v _ => v = a.tmps.getD 3 undef)
            | 10 => (fun v _ => v = .agg #[.int .i64 ta, .int .i64 tb, .int .i64 tc])
            | 11 => (fun v _ => v = a.tmps.getD 2 undef)
            | 12 => (fun v _ => v = .agg #[.int .i64 c, .int .i64 ta, .int .i64 tb, .int .i64 tc, .int .i64 u])
            | 13 => (fun v w => ∃ g, v = .slice (some ⟨g, 0, none⟩) 1 1 ∧ g < w.heap.size ∧ w.heap[g]? = some (.cells #[.int .i64 c, .int .i64 ta, .int .i64 tb, .int .i64 tc, .int .i64 u] 81 (0, 0)))
            | 14 => (fun v w => w.ownsRow wr.heap.size 81 5 v (k + 1) (encD (ds.take k) ++ [.int .i64 c, .int .i64 ta, .int .i64 tb, .int .i64 tc, .int .i64 u]))
            | 15 => (fun v _ => v = a.tmps.getD 0 undef)
            | 16 => (fun v _ => v = .pointer (some ⟨bw, 0, none⟩))
            | 17 => (fun v _ => v = .pointer (some ⟨bw, 1, none⟩))
            | 18 => (fun v _ => v = .slice A n ca)
            | 19 => (fun v _ => v = a.tmps.getD 12 undef)
            | 20 => (fun v _ => v = .slice A2 (n - k) c2)
            | 21 => (fun v w => w.ownsRow wr.heap.size 81 5 v (k + 1 + (n - k)) (encD (ds.take k) ++ [.int .i64 c, .int .i64 ta, .int .i64 tb, .int .i64 tc, .int .i64 u] ++ encD (ds.drop k)))
            | 22 => (fun v _ => v = .pointer (some ⟨bw, 0, none⟩))
            | 23 => (fun v _ => v = .pointer (some ⟨bw, 1, none⟩))
            | 24 => (fun v w => ∃ A' c', w.heap[bw]? = some (.cells #[.int .i64 (N : Int), .slice A' (k + 1 + (n - k)) c'] 73 (0, 0)) ∧ w.ownsRow wr.heap.size 81 5 (.slice A' (k + 1 + (n - k)) c') (k + 1 + (n - k)) (encD (ds.take k) ++ [.int .i64 c, .int .i64 ta, .int .i64 tb, .int .i64 tc, .int .i64 u] ++ encD (ds.drop k)))
            | _ => (fun _ _ => True)) #[0, 0, 0, 4, 12, 28, 0, 124, 254, 0, 0, 0, 3584, 7680, 16382, 0, 32768, 98304, 229376, 0, 1015808, 2097150, 4194303, 8388607, 16777215] #[0, 0, 0, 4, 8, 16, 0, 96, 130, 0, 0, 0, 3584, 4096, 8448, 0, 32768, 65536, 131072, 0, 786432, 1064960, 1, 4194304, 10485760] 31432445 24 (by kernel_rfl) 25 rfl (by kernel_rfl) (fun m hm => by subst hm; kernel_rfl) (by kernel_rfl) (fun w => Lo.refl _ _ _) (fun u v w h1 h2 => Lo.trans h1 h2) ?_ ?_ (hS0) ?_ ?_
        · intro k u v hk hr
          by_cases hs : k = 14 ∨ k = 21 ∨ k = 24
          · have h := hr.1 hs; exact h
          · have h := hr.2 hs; exact h.2.lo
        · intro i hi hiz
          rcases (by omega : i = 0 ∨ i = 1 ∨ i = 2 ∨ i = 3 ∨ i = 4 ∨ i = 5 ∨ i = 6 ∨ i = 7 ∨ i = 8 ∨ i = 9 ∨ i = 10 ∨ i = 11 ∨ i = 12 ∨ i = 13 ∨ i = 14 ∨ i = 15 ∨ i = 16 ∨ i = 17 ∨ i = 18 ∨ i = 19 ∨ i = 20 ∨ i = 21 ∨ i = 22 ∨ i = 23 ∨ i = 24) with rfl | rfl | rfl | rfl | rfl | rfl | rfl | rfl | rfl | rfl | rfl | rfl | rfl | rfl | rfl | rfl | rfl | rfl | rfl | rfl | rfl | rfl | rfl | rfl | rfl
          · intro k hk q hq hqt v w w' h hr
            by_cases hs : k = 14 ∨ k = 21 ∨ k = 24
            · have hr0 := hr.1 hs
              rcases hs with rfl | rfl | rfl
              · exact (fun (h : _) (hr : _) => by exact h) h hr0
              · exact (fun (h : _) (hr : _) => by exact h) h hr0
              · exact (fun (h : _) (hr : _) => by exact h) h hr0
            · have hr := hr.2 hs
              exact h
          · intro k hk q hq hqt v w w' h hr
            by_cases hs : k = 14 ∨ k = 21 ∨ k = 24
            · have hr0 := hr.1 hs
              rcases hs with rfl | rfl | rfl
              · exact absurd (hq.trans hqt) (ne_true_of_eq_false (by kernel_rfl))
              · exact absurd (hq.trans hqt) (ne_true_of_eq_false (by kernel_rfl))
              · exact absurd (hq.trans hqt) (ne_true_of_eq_false (by kernel_rfl))
            · have hr := hr.2 hs
              obtain ⟨A0, h1, h2⟩ := h; exact ⟨A0, h1, own_kept h2 hr.1⟩
          · intro k hk q hq hqt v w w' h hr
            by_cases hs : k = 14 ∨ k = 21 ∨ k = 24
            · have hr0 := hr.1 hs
              rcases hs with rfl | rfl | rfl
              · exact (fun (h : _) (hr : _) => by exact h) h hr0
              · exact (fun (h : _) (hr : _) => by exact h) h hr0
              · exact (fun (h : _) (hr : _) => by exact h) h hr0
            · have hr := hr.2 hs
              exact h
          · intro k hk q hq hqt v w w' h hr
            by_cases hs : k = 14 ∨ k = 21 ∨ k = 24
            · have hr0 := hr.1 hs
              rcases hs with rfl | rfl | rfl
              · exact (fun (h : _) (hr : _) => by exact h) h hr0
              · exact (fun (h : _) (hr : _) => by exact h) h hr0
              · exact (fun (h : _) (hr : _) => by exact h) h hr0
            · have hr := hr.2 hs
              exact h
          · intro k hk q hq hqt v w w' h hr
            by_cases hs : k = 14 ∨ k = 21 ∨ k = 24
            · have hr0 := hr.1 hs
              rcases hs with rfl | rfl | rfl
              · exact (fun (h : _) (hr : _) => by exact h) h hr0
              · exact (fun (h : _) (hr : _) => by exact h) h hr0
              · exact (fun (h : _) (hr : _) => by exact h) h hr0
            · have hr := hr.2 hs
              exact h
          · intro k hk q hq hqt v w w' h hr
            by_cases hs : k = 14 ∨ k = 21 ∨ k = 24
            · have hr0 := hr.1 hs
              rcases hs with rfl | rfl | rfl
              · exact (fun (h : _) (hr : _) => by exact h) h hr0
              · exact (fun (h : _) (hr : _) => by exact h) h hr0
              · exact (fun (h : _) (hr : _) => by exact h) h hr0
            · have hr := hr.2 hs
              exact h
          · intro k hk q hq hqt v w w' h hr
            by_cases hs : k = 14 ∨ k = 21 ∨ k = 24
            · have hr0 := hr.1 hs
              rcases hs with rfl | rfl | rfl
              · exact (fun (h : _) (hr : _) => by exact h) h hr0
              · exact (fun (h : _) (hr : _) => by exact h) h hr0
              · exact (fun (h : _) (hr : _) => by exact h) h hr0
            · have hr := hr.2 hs
              exact h
          · intro k hk q hq hqt v w w' h hr
            by_cases hs : k = 14 ∨ k = 21 ∨ k = 24
            · have hr0 := hr.1 hs
              rcases hs with rfl | rfl | rfl
              · exact (fun (h : _) (hr : _) => by exact h) h hr0
              · exact (fun (h : _) (hr : _) => by exact h) h hr0
              · exact (fun (h : _) (hr : _) => by exact h) h hr0
            · have hr := hr.2 hs
              exact h
          · intro k hk q hq hqt v w w' h hr
            by_cases hs : k = 14 ∨ k = 21 ∨ k = 24
            · have hr0 := hr.1 hs
              rcases hs with rfl | rfl | rfl
              · exact absurd (hq.trans hqt) (ne_true_of_eq_false (by kernel_rfl))
              · exact absurd (hq.trans hqt) (ne_true_of_eq_false (by kernel_rfl))
              · exact absurd (hq.trans hqt) (ne_true_of_eq_false (by kernel_rfl))
            · have hr := hr.2 hs
              exact own_kept h hr.1
          · intro k hk q hq hqt v w w' h hr
            by_cases hs : k = 14 ∨ k = 21 ∨ k = 24
            · have hr0 := hr.1 hs
              rcases hs with rfl | rfl | rfl
              · exact (fun (h : _) (hr : _) => by exact h) h hr0
              · exact (fun (h : _) (hr : _) => by exact h) h hr0
              · exact (fun (h : _) (hr : _) => by exact h) h hr0
            · have hr := hr.2 hs
              exact h
          · intro k hk q hq hqt v w w' h hr
            by_cases hs : k = 14 ∨ k = 21 ∨ k = 24
            · have hr0 := hr.1 hs
              rcases hs with rfl | rfl | rfl
              · exact (fun (h : _) (hr : _) => by exact h) h hr0
              · exact (fun (h : _) (hr : _) => by exact h) h hr0
              · exact (fun (h : _) (hr : _) => by exact h) h hr0
            · have hr := hr.2 hs
              exact h
          · intro k hk q hq hqt v w w' h hr
            by_cases hs : k = 14 ∨ k = 21 ∨ k = 24
            · have hr0 := hr.1 hs
              rcases hs with rfl | rfl | rfl
              · exact (fun (h : _) (hr : _) => by exact h) h hr0
              · exact (fun (h : _) (hr : _) => by exact h) h hr0
              · exact (fun (h : _) (hr : _) => by exact h) h hr0
            · have hr := hr.2 hs
              exact h
          · intro k hk q hq hqt v w w' h hr
            by_cases hs : k = 14 ∨ k = 21 ∨ k = 24
            · have hr0 := hr.1 hs
              rcases hs with rfl | rfl | rfl
              · exact (fun (h : _) (hr : _) => by exact h) h hr0
              · exact (fun (h : _) (hr : _) => by exact h) h hr0
              · exact (fun (h : _) (hr : _) => by exact h) h hr0
            · have hr := hr.2 hs
              exact h
          · intro k hk q hq hqt v w w' h hr
            by_cases hs : k = 14 ∨ k = 21 ∨ k = 24
            · have hr0 := hr.1 hs
              rcases hs with rfl | rfl | rfl
              · exact absurd (hq.trans hqt) (ne_true_of_eq_false (by kernel_rfl))
              · exact absurd (hq.trans hqt) (ne_true_of_eq_false (by kernel_rfl))
              · exact absurd (hq.trans hqt) (ne_true_of_eq_false (by kernel_rfl))
            · have hr := hr.2 hs
              obtain ⟨g, h1, h2, h3⟩ := h; exact ⟨g, h1, Nat.lt_of_lt_of_le h2 hr.1.size, (hr.1.block g h2).trans h3⟩
          · intro k hk q hq hqt v w w' h hr
            by_cases hs : k = 14 ∨ k = 21 ∨ k = 24
            · have hr0 := hr.1 hs
              rcases hs with rfl | rfl | rfl
              · exact absurd (hq.trans hqt) (ne_true_of_eq_false (by kernel_rfl))
              · exact absurd (hq.trans hqt) (ne_true_of_eq_false (by kernel_rfl))
              · exact absurd (hq.trans hqt) (ne_true_of_eq_false (by kernel_rfl))
            · have hr := hr.2 hs
              exact own_kept h hr.1
          · intro k hk q hq hqt v w w' h hr
            by_cases hs : k = 14 ∨ k = 21 ∨ k = 24
            · have hr0 := hr.1 hs
              rcases hs with rfl | rfl | rfl
              · exact (fun (h : _) (hr : _) => by exact h) h hr0
              · exact (fun (h : _) (hr : _) => by exact h) h hr0
              · exact (fun (h : _) (hr : _) => by exact h) h hr0
            · have hr := hr.2 hs
              exact h
          · intro k hk q hq hqt v w w' h hr
            by_cases hs : k = 14 ∨ k = 21 ∨ k = 24
            · have hr0 := hr.1 hs
              rcases hs with rfl | rfl | rfl
              · exact (fun (h : _) (hr : _) => by exact h) h hr0
              · exact (fun (h : _) (hr : _) => by exact h) h hr0
              · exact (fun (h : _) (hr : _) => by exact h) h hr0
            · have hr := hr.2 hs
              exact h
          · intro k hk q hq hqt v w w' h hr
            by_cases hs : k = 14 ∨ k = 21 ∨ k = 24
            · have hr0 := hr.1 hs
              rcases hs with rfl | rfl | rfl
              · exact (fun (h : _) (hr : _) => by exact h) h hr0
              · exact (fun (h : _) (hr : _) => by exact h) h hr0
              · exact (fun (h : _) (hr : _) => by exact h) h hr0
            · have hr := hr.2 hs
              exact h
          · intro k hk q hq hqt v w w' h hr
            by_cases hs : k = 14 ∨ k = 21 ∨ k = 24
            · have hr0 := hr.1 hs
              rcases hs with rfl | rfl | rfl
              · exact (fun (h : _) (hr : _) => by exact h) h hr0
              · exact (fun (h : _) (hr : _) => by exact h) h hr0
              · exact (fun (h : _) (hr : _) => by exact h) h hr0
            · have hr := hr.2 hs
              exact h
          · intro k hk q hq hqt v w w' h hr
            by_cases hs : k = 14 ∨ k = 21 ∨ k = 24
            · have hr0 := hr.1 hs
              rcases hs with rfl | rfl | rfl
              · exact (fun (h : _) (hr : _) => by exact h) h hr0
              · exact (fun (h : _) (hr : _) => by exact h) h hr0
              · exact (fun (h : _) (hr : _) => by exact h) h hr0
            · have hr := hr.2 hs
              exact h
          · intro k hk q hq hqt v w w' h hr
            by_cases hs : k = 14 ∨ k = 21 ∨ k = 24
            · have hr0 := hr.1 hs
              rcases hs with rfl | rfl | rfl
              · exact (fun (h : _) (hr : _) => by exact h) h hr0
              · exact (fun (h : _) (hr : _) => by exact h) h hr0
              · exact (fun (h : _) (hr : _) => by exact h) h hr0
            · have hr := hr.2 hs
              exact h
          · intro k hk q hq hqt v w w' h hr
            by_cases hs : k = 14 ∨ k = 21 ∨ k = 24
            · have hr0 := hr.1 hs
              rcases hs with rfl | rfl | rfl
              · exact absurd (hq.trans hqt) (ne_true_of_eq_false (by kernel_rfl))
              · exact absurd (hq.trans hqt) (ne_true_of_eq_false (by kernel_rfl))
              · exact absurd (hq.trans hqt) (ne_true_of_eq_false (by kernel_rfl))
            · have hr := hr.2 hs
              exact own_kept h hr.1
          · intro k hk q hq hqt v w w' h hr
            by_cases hs : k = 14 ∨ k = 21 ∨ k = 24
            · have hr0 := hr.1 hs
              rcases hs with rfl | rfl | rfl
              · exact absurd (hq.trans hqt) (ne_true_of_eq_false (by kernel_rfl))
              · exact absurd (hq.trans hqt) (ne_true_of_eq_false (by kernel_rfl))
              · exact (fun (h : _) (hr : _) => by exact h) h hr0
            · have hr := hr.2 hs
              exact h
          · intro k hk q hq hqt v w w' h hr
            by_cases hs : k = 14 ∨ k = 21 ∨ k = 24
            · have hr0 := hr.1 hs
              rcases hs with rfl | rfl | rfl
              · exact absurd (hq.trans hqt) (ne_true_of_eq_false (by kernel_rfl))
              · exact absurd (hq.trans hqt) (ne_true_of_eq_false (by kernel_rfl))
              · exact (fun (h : _) (hr : _) => by exact h) h hr0
            · have hr := hr.2 hs
              exact h
          · exact absurd rfl hiz
        · intro i hi
          rcases (by omega : i = 0 ∨ i = 1 ∨ i = 2 ∨ i = 3 ∨ i = 4 ∨ i = 5 ∨ i = 6 ∨ i = 7 ∨ i = 8 ∨ i = 9 ∨ i = 10 ∨ i = 11 ∨ i = 12 ∨ i = 13 ∨ i = 14 ∨ i = 15 ∨ i = 16 ∨ i = 17 ∨ i = 18 ∨ i = 19 ∨ i = 20 ∨ i = 21 ∨ i = 22 ∨ i = 23 ∨ i = 24) with rfl | rfl | rfl | rfl | rfl | rfl | rfl | rfl | rfl | rfl | rfl | rfl | rfl | rfl | rfl | rfl | rfl | rfl | rfl | rfl | rfl | rfl | rfl | rfl | rfl
          · -- 0: Op.move (Operand.tmp 0)
            intro l hl vs W hS hR hp
            obtain rfl : l = [] := hl.symm.trans (by kernel_rfl)
            clear hp hl
            refine opgoal (_) (some 83) rfl rfl fun K hK => ?_
            refine Runs.mk ?_
            simp only [putAll]
            go_simp
            refine hK _ _ ?_ (fun _ => hS) ⟨fun h => absurd h (by decide), fun _ => ((fun w => ⟨Below.refl _ _, Below.refl _ _⟩) W)⟩ _ rfl rfl
            first | rfl | go_simp | simp
          · -- 1: Op.buildSlice 71 0 #[]
            intro l hl vs W hS hR hp
            obtain rfl : l = [] := hl.symm.trans (by kernel_rfl)
            clear hp hl
            refine opgoal (_) (some 84) rfl rfl fun K hK => ?_
            refine Runs.mk ?_
            simp only [putAll]
            go_simp
            refine hK _ _ ⟨_, rfl, ?_⟩ (fun _ => hS.below (below_alloc _ _)) ⟨fun h => absurd h (by decide), fun _ => ⟨below_alloc _ _, (below_alloc _ _).mono hS.1⟩⟩ _ rfl rfl
            exact World.ownsRow_lit (size := 5) W #[] 0 hS.1 (by decide) rfl
          · -- 2: Op.move (Operand.tmp 0)
            intro l hl vs W hS hR hp
            obtain rfl : l = [] := hl.symm.trans (by kernel_rfl)
            clear hp hl
            refine opgoal (_) (some 85) rfl rfl fun K hK => ?_
            refine Runs.mk ?_
            simp only [putAll]
            go_simp
            refine hK _ _ ?_ (fun _ => hS) ⟨fun h => absurd h (by decide), fun _ => ((fun w => ⟨Below.refl _ _, Below.refl _ _⟩) W)⟩ _ rfl rfl
            first | rfl | go_simp | simp
          · -- 3: Op.nilCheck (Operand.tmp 85)
            intro l hl vs W hS hR hp
            obtain rfl : l = [(2, 85)] := hl.symm.trans (by kernel_rfl)
            have p2 : vs 2 = _ := hp 2 (by decide) (by decide)
            clear hp hl
            refine opgoal (_) (some 86) rfl rfl fun K hK => ?_
            refine Runs.mk ?_
            simp only [putAll]
            go_simp
            refine hK _ _ ?_ (fun _ => hS) ⟨fun h => absurd h (by decide), fun _ => ((fun w => ⟨Below.refl _ _, Below.refl _ _⟩) W)⟩ _ rfl rfl
            first | rfl | go_simp | simp
          · -- 4: Op.fieldAddr 73 (Operand.tmp 86) 1
            intro l hl vs W hS hR hp
            obtain rfl : l = [(2, 85), (3, 86)] := hl.symm.trans (by kernel_rfl)
            have p3 : vs 3 = _ := hp 3 (by decide) (by decide)
            clear hp hl
            refine opgoal (_) (some 87) rfl rfl fun K hK => ?_
            refine Runs.mk ?_
            simp only [putAll]
            go_simp
            refine hK _ _ ?_ (fun _ => hS) ⟨fun h => absurd h (by decide), fun _ => ((fun w => ⟨Below.refl _ _, Below.refl _ _⟩) W)⟩ _ rfl rfl
            first | rfl | go_simp | simp
          · -- 5: Op.load 71 (Operand.tmp 87)
            intro l hl vs W hS hR hp
            obtain rfl : l = [(2, 85), (3, 86), (4, 87)] := hl.symm.trans (by kernel_rfl)
            have p4 : vs 4 = _ := hp 4 (by decide) (by decide)
            clear hp hl
            refine opgoal (_) (some 88) rfl rfl fun K hK => ?_
            have hb1 : W.cell? ⟨bw, 1, none⟩ = some (.slice A n ca) := by rw [cell_of_row W bw 1 _ _ _ hS.2.1]; rfl
            refine Runs.mk ?_
            simp only [putAll]
            go_simp
            refine hK _ _ ?_ (fun _ => hS) ⟨fun h => absurd h (by decide), fun _ => ((fun w => ⟨Below.refl _ _, Below.refl _ _⟩) W)⟩ _ rfl rfl
            first | rfl | go_simp | simp
          · -- 6: Op.move (Operand.tmp 12)
            intro l hl vs W hS hR hp
            obtain rfl : l = [] := hl.symm.trans (by kernel_rfl)
            clear hp hl
            refine opgoal (_) (some 89) rfl rfl fun K hK => ?_
            refine Runs.mk ?_
            simp only [putAll]
            go_simp
            refine hK _ _ ?_ (fun _ => hS) ⟨fun h => absurd h (by decide), fun _ => ((fun w => ⟨Below.refl _ _, Below.refl _ _⟩) W)⟩ _ rfl rfl
            first | rfl | go_simp | simp
          · -- 7: Op.slice 71 (Operand.tmp 88) none (some (Operand.tmp 89)) none
            intro l hl vs W hS hR hp
            obtain rfl : l = [(2, 85), (3, 86), (4, 87), (5, 88), (6, 89)] := hl.symm.trans (by kernel_rfl)
            have p5 : vs 5 = _ := hp 5 (by decide) (by decide)
            have p6 : vs 6 = _ := hp 6 (by decide) (by decide)
            clear hp hl
            refine opgoal (_) (some 90) rfl rfl fun K hK => ?_
            have hs7 := Hs7.out
            refine Runs.mk ?_
            simp only [putAll]
            go_simp
            refine hK _ _ ?_ (fun _ => hS) ⟨fun h => absurd h (by decide), fun _ => ((fun w => ⟨Below.refl _ _, Below.refl _ _⟩) W)⟩ _ rfl rfl
            first | rfl | go_simp | simp
          · -- 8: Op.call { callee := Callee.builtin Builtin.append, args := #[Operand.tmp 84, Operand.tmp 90], argTypes := #[71, 71] }
            intro l hl vs W hS hR hp
            obtain rfl : l = [(1, 84), (2, 85), (3, 86), (4, 87), (5, 88), (6, 89), (7, 90)] := hl.symm.trans (by kernel_rfl)
            have p1 : (fun v w => ∃ A0, v = .slice A0 0 0 ∧ w.ownsRow wr.heap.size 81 5 v 0 []) (vs 1) W := hp 1 (by decide) (by decide)
            dsimp only at p1
            have p7 : vs 7 = _ := hp 7 (by decide) (by decide)
            clear hp hl
            refine opgoal ({ dst := some 91, op := Op.call { callee := Callee.builtin Builtin.append, args := #[Operand.tmp 84, Operand.tmp 90], argTypes := #[71, 71] }, type := 71, pos := "ref.go:51", after := #[{ on := 1, ground := Ground.data }, { on := 7, ground := Ground.data }], guard := none }) (some 91) rfl rfl fun K hK => ?_
            obtain ⟨A0, q1, o1⟩ := p1
            rw [q1] at o1
            refine runs_append_fresh W (wanted_none rfl) (.tmp 84) (.tmp 90) wr.heap.size 71 81 (.agg #[.int .i64 0, .int .i64 0, .int .i64 0, .int .i64 0, .int .i64 0]) 5 40 rfl (by kernel_rfl) (by kernel_rfl) rfl (by decide) (by decide) A0 (by simp [putAll, Act.put, Act.eval, q1]) o1 A k ca (by simp [putAll, Act.put, Act.eval, p7]) HAk.out (encD (ds.take k)) Hl7.out (HL7.out.lo hR) (encD_cells _) (by omega) hS.1 ?_
            intro v' w' h1 h2
            exact hK _ _ h1 (fun _ => hS.below h2) ⟨fun h => absurd h (by decide), fun _ => ⟨h2, h2.mono hS.1⟩⟩ _ put_dfs (put_slot (by simp))
          · -- 9: Op.move (Operand.tmp 3)
            intro l hl vs W hS hR hp
            obtain rfl : l = [] := hl.symm.trans (by kernel_rfl)
            clear hp hl
            refine opgoal (_) (some 92) rfl rfl fun K hK => ?_
            refine Runs.mk ?_
            simp only [putAll]
            go_simp
            refine hK _ _ ?_ (fun _ => hS) ⟨fun h => absurd h (by decide), fun _ => ((fun w => ⟨Below.refl _ _, Below.refl _ _⟩) W)⟩ _ rfl rfl
            first | rfl | go_simp | simp
          · -- 10: Op.load 55 (Operand.tmp 6)
            intro l hl vs W hS hR hp
            obtain rfl : l = [] := hl.symm.trans (by kernel_rfl)
            clear hp hl
            refine opgoal (_) (some 93) rfl rfl fun K hK => ?_
            have b0 := hR.cell_eq HB0.out
            have b1 := hR.cell_eq HB1.out
            have b2 := hR.cell_eq HB2.out
            refine Runs.mk ?_
            simp only [putAll]
            go_simp
            refine hK _ _ ?_ (fun _ => hS) ⟨fun h => absurd h (by decide), fun _ => ((fun w => ⟨Below.refl _ _, Below.refl _ _⟩) W)⟩ _ rfl rfl
            first | rfl | go_simp | simp
          · -- 11: Op.move (Operand.tmp 2)
            intro l hl vs W hS hR hp
            obtain rfl : l = [] := hl.symm.trans (by kernel_rfl)
            clear hp hl
            refine opgoal (_) (some 94) rfl rfl fun K hK => ?_
            refine Runs.mk ?_
            simp only [putAll]
            go_simp
            refine hK _ _ ?_ (fun _ => hS) ⟨fun h => absurd h (by decide), fun _ => ((fun w => ⟨Below.refl _ _, Below.refl _ _⟩) W)⟩ _ rfl rfl
            first | rfl | go_simp | simp
          · -- 12: Op.build 81 #[(0, Operand.tmp 92), (1, Operand.tmp 93), (2, Operand.tmp 94)]
            intro l hl vs W hS hR hp
            obtain rfl : l = [(9, 92), (10, 93), (11, 94)] := hl.symm.trans (by kernel_rfl)
            have p9 : vs 9 = _ := hp 9 (by decide) (by decide)
            have p10 : vs 10 = _ := hp 10 (by decide) (by decide)
            have p11 : vs 11 = _ := hp 11 (by decide) (by decide)
            clear hp hl
            refine opgoal (_) (some 95) rfl rfl fun K hK => ?_
            refine Runs.mk ?_
            simp only [putAll]
            go_simp
            refine hK _ _ ?_ (fun _ => hS) ⟨fun h => absurd h (by decide), fun _ => ((fun w => ⟨Below.refl _ _, Below.refl _ _⟩) W)⟩ _ rfl rfl
            first | rfl | go_simp | simp
          · -- 13: Op.buildSlice 71 1 #[(0, Operand.tmp 95)]
            intro l hl vs W hS hR hp
            obtain rfl : l = [(9, 92), (10, 93), (11, 94), (12, 95)] := hl.symm.trans (by kernel_rfl)
            have p12 : vs 12 = _ := hp 12 (by decide) (by decide)
            clear hp hl
            refine opgoal (_) (some 96) rfl rfl fun K hK => ?_
            refine Runs.mk ?_
            simp only [putAll]
            go_simp
            refine hK _ _ ⟨W.heap.size, rfl, by simp, heap_alloc_new _ _⟩ (fun _ => hS.below (below_alloc _ _)) ⟨fun h => absurd h (by decide), fun _ => ⟨below_alloc _ _, (below_alloc _ _).mono hS.1⟩⟩ _ rfl rfl
          · -- 14: Op.call { callee := Callee.builtin Builtin.append, args := #[Operand.tmp 91, Operand.tmp 96], argTypes := #[71, 71] }
            intro l hl vs W hS hR hp
            obtain rfl : l = [(1, 84), (2, 85), (3, 86), (4, 87), (5, 88), (6, 89), (7, 90), (8, 91), (9, 92), (10, 93), (11, 94), (12, 95), (13, 96)] := hl.symm.trans (by kernel_rfl)
            have p8 : (fun v w => w.ownsRow wr.heap.size 81 5 v k (encD (ds.take k))) (vs 8) W := hp 8 (by decide) (by decide)
            dsimp only at p8
            have p13 : (fun v w => ∃ g, v = .slice (some ⟨g, 0, none⟩) 1 1 ∧ g < w.heap.size ∧ w.heap[g]? = some (.cells #[.int .i64 c, .int .i64 ta, .int .i64 tb, .int .i64 tc, .int .i64 u] 81 (0, 0))) (vs 13) W := hp 13 (by decide) (by decide)
            dsimp only at p13
            clear hp hl
            refine opgoal ({ dst := some 97, op := Op.call { callee := Callee.builtin Builtin.append, args := #[Operand.tmp 91, Operand.tmp 96], argTypes := #[71, 71] }, type := 71, pos := "ref.go:51", after := #[{ on := 8, ground := Ground.data }, { on := 13, ground := Ground.data }, { on := 8, ground := Ground.chain }], guard := none }) (some 97) rfl rfl fun K hK => ?_
            obtain ⟨g, q13, l13, b13⟩ := p13
            refine runs_append_src W (wanted_none rfl) (.tmp 91) (.tmp 96) wr.heap.size 71 81 (.agg #[.int .i64 0, .int .i64 0, .int .i64 0, .int .i64 0, .int .i64 0]) 5 40 rfl (by kernel_rfl) (by kernel_rfl) rfl (by decide) (by decide) (vs 8) k _ (by simp [putAll, Act.put, Act.eval]) p8 (some ⟨g, 0, none⟩) 1 1 (by simp [putAll, Act.put, Act.eval, q13]) (fun h => by cases h) [.int .i64 c, .int .i64 ta, .int .i64 tb, .int .i64 tc, .int .i64 u] rfl (lies_block b13) (by simp [Value.oneCell']) (by omega) hS.1 ?_
            intro v' w' h1 h2 h3
            exact hK _ _ h1 (fun _ => hS.grown h2 p8) ⟨fun _ => (below_of_grown h2 hS.1 (fun k hk => (own_lt p8 k hk).1)).lo, fun h => absurd (by decide) h⟩ _ put_dfs (put_slot (by simp))
          · -- 15: Op.move (Operand.tmp 0)
            intro l hl vs W hS hR hp
            obtain rfl : l = [] := hl.symm.trans (by kernel_rfl)
            clear hp hl
            refine opgoal (_) (some 98) rfl rfl fun K hK => ?_
            refine Runs.mk ?_
            simp only [putAll]
            go_simp
            refine hK _ _ ?_ (fun _ => hS) ⟨fun h => absurd h (by decide), fun _ => ((fun w => ⟨Below.refl _ _, Below.refl _ _⟩) W)⟩ _ rfl rfl
            first | rfl | go_simp | simp
          · -- 16: Op.nilCheck (Operand.tmp 98)
            intro l hl vs W hS hR hp
            obtain rfl : l = [(15, 98)] := hl.symm.trans (by kernel_rfl)
            have p15 : vs 15 = _ := hp 15 (by decide) (by decide)
            clear hp hl
            refine opgoal (_) (some 99) rfl rfl fun K hK => ?_
            refine Runs.mk ?_
            simp only [putAll]
            go_simp
            refine hK _ _ ?_ (fun _ => hS) ⟨fun h => absurd h (by decide), fun _ => ((fun w => ⟨Below.refl _ _, Below.refl _ _⟩) W)⟩ _ rfl rfl
            first | rfl | go_simp | simp
          · -- 17: Op.fieldAddr 73 (Operand.tmp 99) 1
            intro l hl vs W hS hR hp
            obtain rfl : l = [(15, 98), (16, 99)] := hl.symm.trans (by kernel_rfl)
            have p16 : vs 16 = _ := hp 16 (by decide) (by decide)
            clear hp hl
            refine opgoal (_) (some 100) rfl rfl fun K hK => ?_
            refine Runs.mk ?_
            simp only [putAll]
            go_simp
            refine hK _ _ ?_ (fun _ => hS) ⟨fun h => absurd h (by decide), fun _ => ((fun w => ⟨Below.refl _ _, Below.refl _ _⟩) W)⟩ _ rfl rfl
            first | rfl | go_simp | simp
          · -- 18: Op.load 71 (Operand.tmp 100)
            intro l hl vs W hS hR hp
            obtain rfl : l = [(15, 98), (16, 99), (17, 100)] := hl.symm.trans (by kernel_rfl)
            have p17 : vs 17 = _ := hp 17 (by decide) (by decide)
            clear hp hl
            refine opgoal (_) (some 101) rfl rfl fun K hK => ?_
            have hb1 : W.cell? ⟨bw, 1, none⟩ = some (.slice A n ca) := by rw [cell_of_row W bw 1 _ _ _ hS.2.1]; rfl
            refine Runs.mk ?_
            simp only [putAll]
            go_simp
            refine hK _ _ ?_ (fun _ => hS) ⟨fun h => absurd h (by decide), fun _ => ((fun w => ⟨Below.refl _ _, Below.refl _ _⟩) W)⟩ _ rfl rfl
            first | rfl | go_simp | simp
          · -- 19: Op.move (Operand.tmp 12)
            intro l hl vs W hS hR hp
            obtain rfl : l = [] := hl.symm.trans (by kernel_rfl)
            clear hp hl
            refine opgoal (_) (some 102) rfl rfl fun K hK => ?_
            refine Runs.mk ?_
            simp only [putAll]
            go_simp
            refine hK _ _ ?_ (fun _ => hS) ⟨fun h => absurd h (by decide), fun _ => ((fun w => ⟨Below.refl _ _, Below.refl _ _⟩) W)⟩ _ rfl rfl
            first | rfl | go_simp | simp
          · -- 20: Op.slice 71 (Operand.tmp 101) (some (Operand.tmp 102)) none none
            intro l hl vs W hS hR hp
            obtain rfl : l = [(15, 98), (16, 99), (17, 100), (18, 101), (19, 102)] := hl.symm.trans (by kernel_rfl)
            have p18 : vs 18 = _ := hp 18 (by decide) (by decide)
            have p19 : vs 19 = _ := hp 19 (by decide) (by decide)
            clear hp hl
            refine opgoal (_) (some 103) rfl rfl fun K hK => ?_
            have hs20 := Hs20.out
            refine Runs.mk ?_
            simp only [putAll]
            go_simp
            refine hK _ _ ?_ (fun _ => hS) ⟨fun h => absurd h (by decide), fun _ => ((fun w => ⟨Below.refl _ _, Below.refl _ _⟩) W)⟩ _ rfl rfl
            first | rfl | go_simp | simp
          · -- 21: Op.call { callee := Callee.builtin Builtin.append, args := #[Operand.tmp 97, Operand.tmp 103], argTypes := #[71, 71] }
            intro l hl vs W hS hR hp
            obtain rfl : l = [(1, 84), (2, 85), (3, 86), (4, 87), (5, 88), (6, 89), (7, 90), (8, 91), (9, 92), (10, 93), (11, 94), (12, 95), (13, 96), (14, 97), (15, 98), (16, 99), (17, 100), (18, 101), (19, 102), (20, 103)] := hl.symm.trans (by kernel_rfl)
            have p14 : (fun v w => w.ownsRow wr.heap.size 81 5 v (k + 1) (encD (ds.take k) ++ [.int .i64 c, .int .i64 ta, .int .i64 tb, .int .i64 tc, .int .i64 u])) (vs 14) W := hp 14 (by decide) (by decide)
            dsimp only at p14
            have p20 : vs 20 = _ := hp 20 (by decide) (by decide)
            clear hp hl
            refine opgoal ({ dst := some 104, op := Op.call { callee := Callee.builtin Builtin.append, args := #[Operand.tmp 97, Operand.tmp 103], argTypes := #[71, 71] }, type := 71, pos := "ref.go:51", after := #[{ on := 14, ground := Ground.data }, { on := 20, ground := Ground.data }, { on := 14, ground := Ground.chain }], guard := none }) (some 104) rfl rfl fun K hK => ?_
            refine runs_append_src W (wanted_none rfl) (.tmp 97) (.tmp 103) wr.heap.size 71 81 (.agg #[.int .i64 0, .int .i64 0, .int .i64 0, .int .i64 0, .int .i64 0]) 5 40 rfl (by kernel_rfl) (by kernel_rfl) rfl (by decide) (by decide) (vs 14) (k + 1) _ (by simp [putAll, Act.put, Act.eval]) p14 A2 (n - k) c2 (by simp [putAll, Act.put, Act.eval, p20]) HA2.out (encD (ds.drop k)) Hl20.out (HL20.out.lo hR) (encD_cells _) (by omega) hS.1 ?_
            intro v' w' h1 h2 h3
            exact hK _ _ h1 (fun _ => hS.grown h2 p14) ⟨fun _ => (below_of_grown h2 hS.1 (fun k hk => (own_lt p14 k hk).1)).lo, fun h => absurd (by decide) h⟩ _ put_dfs (put_slot (by simp))
          · -- 22: Op.nilCheck (Operand.tmp 83)
            intro l hl vs W hS hR hp
            obtain rfl : l = [(0, 83), (1, 84), (2, 85), (3, 86), (4, 87), (5, 88), (6, 89), (7, 90), (8, 91), (9, 92), (10, 93), (11, 94), (12, 95), (13, 96), (14, 97), (15, 98), (16, 99), (17, 100), (18, 101), (19, 102), (20, 103), (21, 104)] := hl.symm.trans (by kernel_rfl)
            have p0 : vs 0 = _ := hp 0 (by decide) (by decide)
            clear hp hl
            refine opgoal (_) (some 105) rfl rfl fun K hK => ?_
            refine Runs.mk ?_
            simp only [putAll]
            go_simp
            refine hK _ _ ?_ (fun _ => hS) ⟨fun h => absurd h (by decide), fun _ => ((fun w => ⟨Below.refl _ _, Below.refl _ _⟩) W)⟩ _ rfl rfl
            first | rfl | go_simp | simp
          · -- 23: Op.fieldAddr 73 (Operand.tmp 105) 1
            intro l hl vs W hS hR hp
            obtain rfl : l = [(0, 83), (1, 84), (2, 85), (3, 86), (4, 87), (5, 88), (6, 89), (7, 90), (8, 91), (9, 92), (10, 93), (11, 94), (12, 95), (13, 96), (14, 97), (15, 98), (16, 99), (17, 100), (18, 101), (19, 102), (20, 103), (21, 104), (22, 105)] := hl.symm.trans (by kernel_rfl)
            have p22 : vs 22 = _ := hp 22 (by decide) (by decide)
            clear hp hl
            refine opgoal (_) (some 106) rfl rfl fun K hK => ?_
            refine Runs.mk ?_
            simp only [putAll]
            go_simp
            refine hK _ _ ?_ (fun _ => hS) ⟨fun h => absurd h (by decide), fun _ => ((fun w => ⟨Below.refl _ _, Below.refl _ _⟩) W)⟩ _ rfl rfl
            first | rfl | go_simp | simp
          · -- 24: Op.store 71 (Operand.tmp 106) (Operand.tmp 104)
            intro l hl vs W hS hR hp
            obtain rfl : l = [(0, 83), (1, 84), (2, 85), (3, 86), (4, 87), (5, 88), (6, 89), (7, 90), (8, 91), (9, 92), (10, 93), (11, 94), (12, 95), (13, 96), (14, 97), (15, 98), (16, 99), (17, 100), (18, 101), (19, 102), (20, 103), (21, 104), (22, 105), (23, 106)] := hl.symm.trans (by kernel_rfl)
            have p21 : (fun v w => w.ownsRow wr.heap.size 81 5 v (k + 1 + (n - k)) (encD (ds.take k) ++ [.int .i64 c, .int .i64 ta, .int .i64 tb, .int .i64 tc, .int .i64 u] ++ encD (ds.drop k))) (vs 21) W := hp 21 (by decide) (by decide)
            dsimp only at p21
            have p23 : vs 23 = _ := hp 23 (by decide) (by decide)
            clear hp hl
            refine opgoal (_) (none) rfl rfl fun K hK => ?_
            obtain ⟨A', c', q21⟩ := own_form p21
            rw [q21] at p21
            have hb1 : W.cell? ⟨bw, 1, none⟩ = some (.slice A n ca) := by rw [cell_of_row W bw 1 _ _ _ hS.2.1]; rfl
            have hf1 : W.frozen? ⟨bw, 1, none⟩ = false := frozen_of_row W _ _ _ _ hS.2.1
            refine Runs.mk ?_
            simp only [putAll]
            go_simp
            refine hK undef _ ⟨A', c', ?_, ?_⟩ (fun h => absurd rfl h) ⟨fun _ => ?_, fun h => absurd (by decide) h⟩ _ rfl rfl
            · exact (heap_setCell_at W bw 1 _ _ _ _ hS.2.1).trans rfl
            · exact ownsRow_setCell_below p21 hS.2.2 _
            · exact Lo.setCell _ _ _ _ _
        · intro l hl vs W hR hp
          obtain rfl : l = [(0, 83), (1, 84), (2, 85), (3, 86), (4, 87), (5, 88), (6, 89), (7, 90), (8, 91), (9, 92), (10, 93), (11, 94), (12, 95), (13, 96), (14, 97), (15, 98), (16, 99), (17, 100), (18, 101), (19, 102), (20, 103), (21, 104), (22, 105), (23, 106)] := hl.symm.trans (by kernel_rfl)
          have p0 : vs 0 = _ := hp 0 (by decide) (by decide)
          have p2 : vs 2 = _ := hp 2 (by decide) (by decide)
          have p3 : vs 3 = _ := hp 3 (by decide) (by decide)
          have p4 : vs 4 = _ := hp 4 (by decide) (by decide)
          have p5 : vs 5 = _ := hp 5 (by decide) (by decide)
          have p6 : vs 6 = _ := hp 6 (by decide) (by decide)
          have p7 : vs 7 = _ := hp 7 (by decide) (by decide)
          have p9 : vs 9 = _ := hp 9 (by decide) (by decide)
          have p10 : vs 10 = _ := hp 10 (by decide) (by decide)
          have p11 : vs 11 = _ := hp 11 (by decide) (by decide)
          have p12 : vs 12 = _ := hp 12 (by decide) (by decide)
          have p15 : vs 15 = _ := hp 15 (by decide) (by decide)
          have p16 : vs 16 = _ := hp 16 (by decide) (by decide)
          have p17 : vs 17 = _ := hp 17 (by decide) (by decide)
          have p18 : vs 18 = _ := hp 18 (by decide) (by decide)
          have p19 : vs 19 = _ := hp 19 (by decide) (by decide)
          have p20 : vs 20 = _ := hp 20 (by decide) (by decide)
          have p22 : vs 22 = _ := hp 22 (by decide) (by decide)
          have p23 : vs 23 = _ := hp 23 (by decide) (by decide)
          have p24 : (fun v w => ∃ A' c', w.heap[bw]? = some (.cells #[.int .i64 (N : Int), .slice A' (k + 1 + (n - k)) c'] 73 (0, 0)) ∧ w.ownsRow wr.heap.size 81 5 (.slice A' (k + 1 + (n - k)) c') (k + 1 + (n - k)) (encD (ds.take k) ++ [.int .i64 c, .int .i64 ta, .int .i64 tb, .int .i64 tc, .int .i64 u] ++ encD (ds.drop k))) (vs 24) W := hp 24 (by decide) (by decide)
          dsimp only at p24
          clear hp hl
          simp only [putAll_mk, setAll, List.setIfInBounds_toArray, List.set_cons_succ, List.set_cons_zero, p0, p2, p3, p4, p5, p6, p7, p9, p10, p11, p12, p15, p16, p17, p18, p19, p20, p22, p23]
          obtain ⟨A', c', hb', ho'⟩ := p24
          have hfin := Doc.ins (d := ⟨c, ta, tb, tc, u⟩) (by rw [hn.out]; exact hb') (by rw [hn.out]; exact ho') (by omega) hkd (by rw [hn.out]; exact hn16) hN
          rw [← hpre.out, hS2.out] at hfin
          have HF := Lib.hid hfin
          have HG := Lib.hid (own_ge ho')
          clear hb' ho' hfin
          go_wp2
          go_ret
          exact ⟨rfl, _, _, HF.out, fun p hp => .inr (by have := HG.out p hp; omega), hbw.out.trans ((hb.drew.mono (by omega)).trans (hR.below (b' := bw) (Nat.le_refl _) (by omega))), fun x hx hxb hxA => (hR.block x (by omega) hxb).trans ((hb.block x (by omega)).trans (hal.block x hx))⟩
  · have HA := Lib.hid (at_any W bw N A ca ds c hD.out k ha)
    obtain ⟨d, hd⟩ : ∃ d, Hid (ds[k] = d) := ⟨_, Lib.hid rfl⟩
    obtain ⟨g, rfl, hg1, hg2, e0, e1, e2, e3, e4⟩ := hD.out.row k hk d hd.out
    have hgh : getH ds (k : Int) = d := by simp [getH, hk, hd.out]
    have c1 := hD.out.c1
    obtain ⟨n, hn⟩ : ∃ n, Hid (ds.length = n) := ⟨_, Lib.hid rfl⟩
    have hkn : k < n := by have := hn.out; omega
    rw [hn.out] at c1 hln
    have htd : tidB d.a d.b d.c ta tb tc = true := by simpa [foe, ha, hgh] using hfo
    have hS2 : Hid ((if d.u < u then ds.set k { ds[k] with u := u } else ds) = ds') := Lib.hid (by rw [← HS.out]; simp [oneS, ha, hgh, hd.out])
    have hfz := Lib.hid (hD.out.own.frozenAt (k * 5 + 4))
    clear hd
    obtain ⟨dc, da, db, dd, du⟩ := d
    dsimp only at e0 e1 e2 e3 e4 htd hS2
    have hm := tid_guard
    have dk : decide ((k : Int) ≥ 0) = true := by simp
    have hq1 : ∀ w, (Op.equalIn 10000 55 (.agg #[.int .i64 da, .int .i64 db, .int .i64 dd]) (.agg #[.int .i64 ta, .int .i64 tb, .int .i64 tc])).run Try.prog w = .ok true w := fun w => by rw [tid_eq, htd]
    by_cases hu : du < u
    · have hS3 : Hid (ds.set k { ds[k] with u := u } = ds') := Lib.hid (by rw [← hS2.out, if_pos hu])
      have hfz' := hfz.out
      clear htd
      go_enter Try.func37, Try.ntmps37
      go_wp2_with fail
      rw [hW.out]
      refine HA.out.mono ?_
      rintro e w1 ⟨rfl, rfl⟩
      go_wp2
      go_quiet (fail)
      go_wp2
      go_ret
      obtain ⟨q1, q2⟩ := (hD.out.below (below_drewN nq W)).setU hg1 k (by rw [hn.out]; exact hkn) u
      exact ⟨rfl, _, _, by rw [← hS3.out]; exact q1, fun p hp => .inl hp, hbw.out.trans (((below_drewN nq W).mono (Nat.le_of_lt hD.out.lt)).trans q2), fun x hx hxb hxA => (heap_setCell_other _ ⟨g, k * 5 + 4, none⟩ x _ (fun e => hxA _ rfl e.symm)).trans (((below_drewN nq W).block x (Nat.lt_of_lt_of_le hx hal.size)).trans (hal.block x hx))⟩
    · have hS3 : Hid (ds = ds') := Lib.hid (by rw [← hS2.out, if_neg hu])
      clear htd
      go_enter Try.func37, Try.ntmps37
      go_wp2_with fail
      rw [hW.out]
      refine HA.out.mono ?_
      rintro e w1 ⟨rfl, rfl⟩
      go_wp2
      go_quiet (fail)
      go_wp2
      go_ret
      exact ⟨rfl, _, _, by rw [← hS3.out]; exact hD.out.below (below_drewN _ _), fun p hp => .inl hp, hbw.out.trans ((below_drewN _ _).mono (Nat.le_of_lt hD.out.lt)), fun x hx hxb hxA => ((below_drewN _ W).block x (Nat.lt_of_lt_of_le hx hal.size)).trans (hal.block x hx)⟩
end Go.Proofs.Ytljdiaokjocfpaa.Ls

/- the document's table: a row of holds; At; and the table's Held. -/
import Derived.Test.YtljdiaokjocfpaaLsQ
namespace Go.Proofs.Ytljdiaokjocfpaa.Ls
open Go.RowKit Go.Proofs.Ytljdiaokjocfpaa.L Go.Proofs.Ytljdiaokjocfpaa.O Go.Proofs.Ytljdiaokjocfpaa.A Go.Proofs.Ytljdiaokjocfpaa.R Go.Proofs.Ytljdiaokjocfpaa.S Go.Proofs.Ytljdiaokjocfpaa.T
set_option linter.unusedVariables false
set_option linter.unusedSimpArgs false

/-- one hold of the document's. -/
structure Dh where
  cell : Int
  a : Int
  b : Int
  c : Int
  u : Int
def Dh.enc (d : Dh) : List Value := [.int .i64 d.cell, .int .i64 d.a, .int .i64 d.b, .int .i64 d.c, .int .i64 d.u]
def encD (ds : List Dh) : List Value := ds.flatMap Dh.enc
theorem encD_cons (d : Dh) (ds : List Dh) : encD (d :: ds) = d.enc ++ encD ds := rfl
theorem encD_app (xs ys : List Dh) : encD (xs ++ ys) = encD xs ++ encD ys := by simp [encD]
theorem encD_len (ds : List Dh) : (encD ds).length = ds.length * 5 := by
  induction ds with
  | nil => rfl
  | cons s ss ih => simp [encD, Dh.enc] at ih ⊢; omega
theorem encD_at : ∀ (ds : List Dh) (i j : Nat) (hi : i < ds.length), j < 5 → (encD ds)[i * 5 + j]? = (ds[i].enc)[j]?
  | s :: ss, 0, j, _, hj => by
    simp only [encD, List.flatMap_cons, List.getElem_cons_zero, Nat.zero_mul, Nat.zero_add]
    rw [List.getElem?_append_left (by simp [Dh.enc]; omega)]
  | s :: ss, i + 1, j, hi, hj => by
    have ih := encD_at ss i j (by simpa using hi) hj
    simp only [encD, List.flatMap_cons, List.getElem_cons_succ] at ih ⊢
    rw [List.getElem?_append_right (by simp [Dh.enc]; omega)]
    rw [← ih]
    congr 1
    simp [Dh.enc]; omega
theorem encD_one (d : Dh) : encD [d] = d.enc := by simp [encD]
theorem encD_take (ds : List Dh) (k : Nat) (hk : k ≤ ds.length) : (encD ds).take (k * 5) = encD (ds.take k) := by
  have h : encD ds = encD (ds.take k) ++ encD (ds.drop k) := by rw [← encD_app, List.take_append_drop]
  have hl : (encD (ds.take k)).length = k * 5 := by rw [encD_len, List.length_take, Nat.min_eq_left hk]
  rw [h, ← hl]
  exact List.take_left
theorem encD_drop (ds : List Dh) (k : Nat) (hk : k ≤ ds.length) : (encD ds).drop (k * 5) = encD (ds.drop k) := by
  have h : encD ds = encD (ds.take k) ++ encD (ds.drop k) := by rw [← encD_app, List.take_append_drop]
  have hl : (encD (ds.take k)).length = k * 5 := by rw [encD_len, List.length_take, Nat.min_eq_left hk]
  rw [h, ← hl]
  exact List.drop_left
theorem encD_setU : ∀ (ds : List Dh) (k : Nat) (h : k < ds.length) (u : Int), (encD ds).set (k * 5 + 4) (.int .i64 u) = encD (ds.set k { ds[k] with u := u })
  | s :: ss, 0, _, u => by simp [encD, Dh.enc]
  | s :: ss, k + 1, h, u => by
    have ih := encD_setU ss k (by simpa using h) u
    simp only [encD_cons, List.set_cons_succ, List.getElem_cons_succ, ← ih]
    rw [List.set_append_right _ _ (by simp [Dh.enc]; omega)]
    congr 2
    simp [Dh.enc]; omega
/-- the document's table in memory: a block, and a row of its own behind it. -/
structure Doc (w : World) (bw N : Nat) (A : Option Addr) (ca : Nat) (ds : List Dh) : Prop where
  blk : w.heap[bw]? = some (.cells #[.int .i64 (N : Int), .slice A ds.length ca] 73 (0, 0))
  own : w.ownsRow (bw + 1) 81 5 (.slice A ds.length ca) ds.length (encD ds)
  len : ds.length ≤ 16
  N16 : N ≤ 16
theorem Doc.c0 {w : World} {bw N : Nat} {A : Option Addr} {ca : Nat} {ds : List Dh} (h : Doc w bw N A ca ds) : w.cell? ⟨bw, 0, none⟩ = some (.int .i64 (N : Int)) := by rw [cell_of_row w bw 0 _ _ _ h.blk]; rfl
theorem Doc.c1 {w : World} {bw N : Nat} {A : Option Addr} {ca : Nat} {ds : List Dh} (h : Doc w bw N A ca ds) : w.cell? ⟨bw, 1, none⟩ = some (.slice A ds.length ca) := by rw [cell_of_row w bw 1 _ _ _ h.blk]; rfl
theorem Doc.lt {w : World} {bw N : Nat} {A : Option Addr} {ca : Nat} {ds : List Dh} (h : Doc w bw N A ca ds) : bw < w.heap.size := (Array.getElem?_eq_some_iff.1 h.blk).1
theorem Doc.row {w : World} {bw N : Nat} {A : Option Addr} {ca : Nat} {ds : List Dh} (h : Doc w bw N A ca ds) (i : Nat) (hi : i < ds.length) (d : Dh) (hd : ds[i] = d) : ∃ g, A = some ⟨g, 0, none⟩ ∧ bw < g ∧ g < w.heap.size ∧
    w.cell? ⟨g, i * 5, none⟩ = some (.int .i64 d.cell) ∧ w.cell? ⟨g, i * 5 + 1, none⟩ = some (.int .i64 d.a) ∧ w.cell? ⟨g, i * 5 + 2, none⟩ = some (.int .i64 d.b) ∧ w.cell? ⟨g, i * 5 + 3, none⟩ = some (.int .i64 d.c) ∧ w.cell? ⟨g, i * 5 + 4, none⟩ = some (.int .i64 d.u) := by
  rcases h.own.2 with ⟨h1, h0⟩ | ⟨g, cap, cur, h1, hb, hg, _⟩
  · have := h.own.1; omega
  · injection h1 with h1 _ h2
    subst h1; subst h2
    have hc : ∀ j, j < 5 → w.cell? ⟨g, i * 5 + j, none⟩ = (d.enc)[j]? := fun j hj => by
      rw [h.own.cellAt (i * 5 + j) (by omega), encD_at ds i j hi hj, hd]
    exact ⟨g, rfl, hb, (Array.getElem?_eq_some_iff.1 hg).1, hc 0 (by omega), hc 1 (by omega), hc 2 (by omega), hc 3 (by omega), hc 4 (by omega)⟩
theorem Doc.below {w w1 : World} {bw N : Nat} {A : Option Addr} {ca : Nat} {ds : List Dh} (h : Doc w bw N A ca ds) (hb : Below w.heap.size w w1) : Doc w1 bw N A ca ds :=
  ⟨(hb.block bw h.lt).trans h.blk, own_kept h.own hb, h.len, h.N16⟩
theorem Doc.keep {w w1 : World} {bw N g : Nat} {A : Option Addr} {ca : Nat} {ds : List Dh} (h : Doc w bw N A ca ds) (hk : Keep [g] w w1) (hg : g < bw) : Doc w1 bw N A ca ds :=
  ⟨(hk.block bw h.lt (by simp; omega)).trans h.blk, own_keep h.own hk (fun k h1 h2 => by have := (h.own.lt k h1).1; simp at h2; omega), h.len, h.N16⟩
def isC (c : Int) (d : Dh) : Bool := d.cell == c
def atD (ds : List Dh) (c : Int) : Int := idx (isC c) ds
set_option maxHeartbeats 1000000 in
theorem at_any (w : World) (bw N : Nat) (A : Option Addr) (ca : Nat) (ds : List Dh) (c : Int) (h : Doc w bw N A ca ds) (r : Int) (hr : atD ds c = r) :
    Calls Try.prog 40 #[.pointer (some ⟨bw, 0, none⟩), .int .i64 c] w fun e w' => e = .returned (.int .i64 r) ∧ w = w' := by
  have c1 := h.c1
  have hlen := h.len
  have hres := Lib.hid hr
  clear hr
  have HD := Lib.hid h
  obtain ⟨n, hn⟩ : ∃ n, Hid (ds.length = n) := ⟨_, Lib.hid rfl⟩
  rw [hn.out] at c1 hlen
  clear h
  go_enter Try.func40, Try.ntmps40
  go_wp2
  go_loopw [5] (fun i wr => ∃ k : Nat, k ≤ n ∧ i = .int .i64 k ∧ w = wr ∧ Hid (∀ j, (h : j < ds.length) → j < k → isC c ds[j] = false)) (fun i _ => n - (intOf i).toNat)
  case atStart => exact ⟨0, by omega, rfl, rfl, Lib.hid fun j _ h => absurd h (by omega)⟩
  case round =>
    obtain ⟨k, hk, rfl, rfl, hnot⟩ := hrel
    by_cases hlt : k < n
    · have hkl : k < ds.length := by have := hn.out; omega
      obtain ⟨d, hd⟩ : ∃ d, Hid (ds[k] = d) := ⟨_, Lib.hid rfl⟩
      obtain ⟨g, rfl, hg1, hg2, e0, e1, e2, e3, e4⟩ := HD.out.row k hkl d hd.out
      obtain ⟨dc, da, db, dd, du⟩ := d
      dsimp only at e0 e1 e2 e3 e4
      by_cases hq : dc = c
      · subst hq
        have hend : Hid ((k : Int) = r) := Lib.hid (by rw [← hres.out]; exact (idx_some hkl hnot.out (by rw [hd.out]; simp [isC])).symm)
        go_wp2
        go_ret
        exact ⟨reti hend.out, rfl⟩
      · have hstep : Hid (∀ j, (h : j < ds.length) → j < k + 1 → isC c ds[j] = false) := Lib.hid fun j hj hjk => by
          by_cases e : j = k
          · subst e; rw [hd.out]; simp [isC, hq]
          · exact hnot.out j hj (by omega)
        go_wp2
        go_roundw
        case rel => exact ⟨k + 1, by omega, by go_num, by trivial, hstep⟩
        case measure => simp [intOf]; omega
    · have hend : Hid (-1 = r) := Lib.hid (by rw [← hres.out]; exact (idx_none fun j hj => hnot.out j hj (by have := hn.out; omega)).symm)
      go_wp2
      go_ret
      exact ⟨reti hend.out, rfl⟩
def heldN (ss : List Slt) : Nat := (ss.filter (·.on)).length
theorem heldN_succ (ss : List Slt) (k : Nat) (h : k < ss.length) : heldN (ss.take (k + 1)) = heldN (ss.take k) + if ss[k].on then 1 else 0 := by
  unfold heldN
  rw [List.take_succ_eq_append_getElem h, List.filter_append, List.length_append]
  congr 1
  cases h1 : ss[k].on <;> simp [h1]
set_option maxHeartbeats 1000000 in
theorem held_any (b g : Nat) (ss : List Slt) (w : World) (h : Tab w b g ss) (r : Nat) (hr : heldN ss = r) :
    Calls Try.prog 39 #[.pointer (some ⟨b, 0, none⟩)] w fun e w' => e = .returned (.int .i64 r) ∧ Below w.heap.size w w' := by
  obtain ⟨L, hL⟩ : ∃ L, Hid (ss.length = L) := ⟨_, Lib.hid rfl⟩
  have h0 := h.c0
  have hlen := h.len
  have hres := Lib.hid hr
  rw [hL.out] at h0 hlen
  have HT := Lib.hid h
  clear h hr
  go_enter Try.func39, Try.ntmps39
  go_wp2
  go_loopw [3, 13] (fun v i wr => ∃ k m : Nat, k ≤ L ∧ i = .int .i64 k ∧ v = .int .i64 m ∧ m ≤ k ∧ Below w.heap.size w wr ∧ Hid (heldN (ss.take k) = m)) (fun _ i _ => L - (intOf i).toNat)
  case atStart => exact ⟨0, 0, by omega, rfl, rfl, by omega, Below.refl _ _, Lib.hid rfl⟩
  case round =>
    obtain ⟨k, m, hk, rfl, rfl, hm, hb, hK⟩ := hrel
    by_cases hlt : k < L
    · have hkl : k < ss.length := by have := hL.out; omega
      obtain ⟨s, hs⟩ : ∃ s, Hid (ss[k] = s) := ⟨_, Lib.hid rfl⟩
      obtain ⟨c0, c1, c2, c3, c4⟩ := (HT.out.below hb).cells hkl s hs.out
      have hsucc := Lib.hid (heldN_succ ss k hkl)
      rw [hs.out, hK.out] at hsucc
      obtain ⟨sa, sb, sc, su, on⟩ := s
      dsimp only at c0 c1 c2 c3 c4
      have hgl := World.block_lt_of_cell? _ _ c0
      cases on
      · go_wp2
        go_roundw
        case rel => exact ⟨k + 1, m, by omega, by go_num, rfl, by omega, below2 hb (below_alloc _ _), Lib.hid (by rw [hsucc.out]; rfl)⟩
        case measure => simp [intOf]; omega
      · go_wp2
        go_roundw
        case rel => exact ⟨k + 1, m + 1, by omega, by go_num, by go_num, by omega, below2 hb (below_alloc _ _), Lib.hid (by rw [hsucc.out]; rfl)⟩
        case measure => simp [intOf]; omega
    · have hend : Hid (m = r) := Lib.hid (by rw [← hres.out, ← hK.out, List.take_of_length_le (by have := hL.out; omega)])
      go_wp2
      go_ret
      exact ⟨reti (by rw [hend.out]), hb⟩
end Go.Proofs.Ytljdiaokjocfpaa.Ls

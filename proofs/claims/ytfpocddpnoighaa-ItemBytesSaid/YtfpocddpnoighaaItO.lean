/- item: the reader: items. -/
import Derived.Test.YtfpocddpnoighaaItN
namespace Go.Proofs.Ytfpocddpnoighaa.It
open Go.RowKit Go.Proofs.Ytfpocddpnoighaa.L Go.Proofs.Ytfpocddpnoighaa.O Go.Proofs.Ytfpocddpnoighaa.A Go.Proofs.Ytfpocddpnoighaa.R Go.Proofs.Ytfpocddpnoighaa.S Go.Proofs.Ytfpocddpnoighaa.T Go.Proofs.Ytfpocddpnoighaa.E Go.Proofs.Ytfpocddpnoighaa.Wr Go.Proofs.Ytfpocddpnoighaa.F
set_option linter.unusedVariables false
set_option linter.unusedSimpArgs false

def pick5 {α : Type} (f1 f2 f3 f4 f5 : Bool) (o0 o1 o2 o3 o4 o5 : α) : α := if f5 then o5 else if f4 then o4 else if f3 then o3 else if f2 then o2 else if f1 then o1 else o0
def bv (o : ByteArray × Bool) : Bool := numT 1 o.1 o.2 == 1
def bo (o : ByteArray × Bool) : ByteArray × Bool := (takeS 1 o.1 o.2, takeQ 1 o.1 o.2 || decide (1 < numT 1 o.1 o.2))
def itV (o : ByteArray × Bool) : Im := ⟨nv o, nv (nxt o), nv (nxt (nxt o)), bv (nxt (nxt (nxt o))), nv (bo (nxt (nxt (nxt o))))⟩
def itS (o : ByteArray × Bool) : ByteArray × Bool := nxt (bo (nxt (nxt (nxt o))))
def itemsV : Nat → ByteArray × Bool → List Im
  | 0, _ => []
  | n + 1, o => itV o :: itemsV n (itS o)
def itSs : Nat → ByteArray × Bool → ByteArray × Bool
  | 0, o => o
  | n + 1, o => itSs n (itS o)
theorem itemsV_snoc : ∀ (k : Nat) (o : ByteArray × Bool), itemsV (k + 1) o = itemsV k o ++ [itV (itSs k o)]
  | 0, o => rfl
  | k + 1, o => by
    have h1 : itemsV (k + 1 + 1) o = itV o :: itemsV (k + 1) (itS o) := rfl
    rw [h1, itemsV_snoc k (itS o)]; rfl
theorem itSs_snoc : ∀ (k : Nat) (o : ByteArray × Bool), itSs (k + 1) o = itS (itSs k o)
  | 0, o => rfl
  | k + 1, o => by
    have h1 : itSs (k + 1 + 1) o = itSs (k + 1) (itS o) := rfl
    rw [h1, itSs_snoc k (itS o)]; rfl
theorem bo_size (o : ByteArray × Bool) : (bo o).1.size ≤ o.1.size := take_size _ _ _
theorem itS_size (o : ByteArray × Bool) : (itS o).1.size ≤ o.1.size :=
  Nat.le_trans (nxt_size _) (Nat.le_trans (bo_size _) (Nat.le_trans (nxt_size _) (Nat.le_trans (nxt_size _) (nxt_size _))))
theorem itSs_size : ∀ (k : Nat) (o : ByteArray × Bool), (itSs k o).1.size ≤ o.1.size
  | 0, o => Nat.le_refl _
  | k + 1, o => Nat.le_trans (itSs_size k (itS o)) (itS_size o)
theorem len_itemsV : ∀ (k : Nat) (o : ByteArray × Bool), (itemsV k o).length = k
  | 0, o => rfl
  | k + 1, o => by simp [itemsV, len_itemsV k (itS o)]
set_option maxHeartbeats 8000000 in
set_option maxRecDepth 100000 in
theorem items_read (bi b : Nat) (o : ByteArray × Bool) (w : World) (h : Rst bi b w o) (hs : o.1.size ≤ 140737488355328) : Calls Try.prog 48 #[.pointer (some ⟨bi, 0, none⟩)] w fun e w' => ∃ v, e = .returned v ∧ w'.ownsRow w.heap.size 86 5 v (manyV o) ((itemsV (manyV o) (manyS o)).flatMap encIm) ∧ Rst bi b w' (itSs (manyV o) (manyS o)) ∧ Keep [b] w w' := by
  have HC := Lib.hid (many_any bi b o w h hs)
  have hV := manyV_le o
  have hz : (manyS o).1.size ≤ 140737488355328 := Nat.le_trans (many_size o) hs
  obtain ⟨m, hm⟩ : ∃ m, Hid (manyV o = m) := ⟨_, Lib.hid rfl⟩
  obtain ⟨o', ho'⟩ : ∃ o1, Hid (manyS o = o1) := ⟨_, Lib.hid rfl⟩
  have hbl : Hid (bi < w.heap.size ∧ b < w.heap.size) := Lib.hid ⟨(Array.getElem?_eq_some_iff.1 h.hbi).1, h.rd.lt⟩
  rw [hm.out] at HC hV ⊢
  rw [ho'.out] at HC hz ⊢
  have HZ := Lib.hid hz
  clear h hs hz
  go_enter Try.func48, Try.ntmps48
  go_wp2_with fail
  refine HC.out.mono ?_
  rintro e w1 ⟨rfl, hr1, hk1⟩
  have HR1 := Lib.hid hr1
  have HK1 := Lib.hid hk1
  clear hr1 hk1 HC
  go_wp2
  go_loopw [3, 6] (fun v i wr => ∃ k : Nat, k ≤ m ∧ i = .int .i64 k ∧ wr.ownsRow w.heap.size 86 5 v k ((itemsV k o').flatMap encIm) ∧ Rst bi b wr (itSs k o') ∧ Keep [b] w wr) (fun _ i _ => m - (intOf i).toNat)
  case atStart => exact ⟨0, by omega, rfl, World.ownsRow_nil _ _ _ _, HR1.out, HK1.out⟩
  case round =>
    obtain ⟨k, hk, rfl, ho, hr, hkp⟩ := hrel
    by_cases hlt : k < m
    · obtain ⟨o0, hok⟩ : ∃ x, Hid (itSs k o' = x) := ⟨_, Lib.hid rfl⟩
      obtain ⟨xs, hxs⟩ : ∃ x, Hid ((itemsV k o').flatMap encIm = x) := ⟨_, Lib.hid rfl⟩
      obtain ⟨o1, ho1⟩ : ∃ x, Hid (nxt o0 = x) := ⟨_, Lib.hid rfl⟩
      obtain ⟨o2, ho2⟩ : ∃ x, Hid (nxt o1 = x) := ⟨_, Lib.hid rfl⟩
      obtain ⟨o3, ho3⟩ : ∃ x, Hid (nxt o2 = x) := ⟨_, Lib.hid rfl⟩
      obtain ⟨o4, ho4⟩ : ∃ x, Hid (bo o3 = x) := ⟨_, Lib.hid rfl⟩
      obtain ⟨o5, ho5⟩ : ∃ x, Hid (nxt o4 = x) := ⟨_, Lib.hid rfl⟩
      obtain ⟨n1, hn1⟩ : ∃ x, Hid (nv o0 = x) := ⟨_, Lib.hid rfl⟩
      obtain ⟨n2, hn2⟩ : ∃ x, Hid (nv o1 = x) := ⟨_, Lib.hid rfl⟩
      obtain ⟨n3, hn3⟩ : ∃ x, Hid (nv o2 = x) := ⟨_, Lib.hid rfl⟩
      obtain ⟨n4, hn4⟩ : ∃ x, Hid (bv o3 = x) := ⟨_, Lib.hid rfl⟩
      obtain ⟨n5, hn5⟩ : ∃ x, Hid (nv o4 = x) := ⟨_, Lib.hid rfl⟩
      have hz0 : Hid (o0.1.size ≤ 9223372036854775807) := Lib.hid (by
        have h1 := itSs_size k o'
        rw [hok.out] at h1
        have := HZ.out
        omega)
      have hz1 : Hid (o1.1.size ≤ 9223372036854775807) := Lib.hid (by rw [← ho1.out]; exact Nat.le_trans (nxt_size _) hz0.out)
      have hz2 : Hid (o2.1.size ≤ 9223372036854775807) := Lib.hid (by rw [← ho2.out]; exact Nat.le_trans (nxt_size _) hz1.out)
      have hz3 : Hid (o3.1.size ≤ 9223372036854775807) := Lib.hid (by rw [← ho3.out]; exact Nat.le_trans (nxt_size _) hz2.out)
      have hz4 : Hid (o4.1.size ≤ 9223372036854775807) := Lib.hid (by rw [← ho4.out]; exact Nat.le_trans (bo_size _) hz3.out)
      have hs1 : Hid (takeS 8 o0.1 o0.2 = o1.1) := Lib.hid (by rw [← ho1.out]; rfl)
      have hq1 : Hid (takeQ 8 o0.1 o0.2 = o1.2) := Lib.hid (by rw [← ho1.out]; rfl)
      have hs2 : Hid (takeS 8 o1.1 o1.2 = o2.1) := Lib.hid (by rw [← ho2.out]; rfl)
      have hq2 : Hid (takeQ 8 o1.1 o1.2 = o2.2) := Lib.hid (by rw [← ho2.out]; rfl)
      have hs3 : Hid (takeS 8 o2.1 o2.2 = o3.1) := Lib.hid (by rw [← ho3.out]; rfl)
      have hq3 : Hid (takeQ 8 o2.1 o2.2 = o3.2) := Lib.hid (by rw [← ho3.out]; rfl)
      have hs4 : Hid (takeS 1 o3.1 o3.2 = o4.1) := Lib.hid (by rw [← ho4.out]; rfl)
      have hq4 : Hid ((takeQ 1 o3.1 o3.2 || decide (1 < numT 1 o3.1 o3.2)) = o4.2) := Lib.hid (by rw [← ho4.out]; rfl)
      have hs5 : Hid (takeS 8 o4.1 o4.2 = o5.1) := Lib.hid (by rw [← ho5.out]; rfl)
      have hq5 : Hid (takeQ 8 o4.1 o4.2 = o5.2) := Lib.hid (by rw [← ho5.out]; rfl)
      have hx1 : Hid ((itemsV (k + 1) o').flatMap encIm = xs ++ [.int .i64 n1, .int .i64 n2, .int .i64 n3, .bool n4, .int .i64 n5]) := Lib.hid (by
        rw [itemsV_snoc, List.flatMap_append, hxs.out, hok.out]
        unfold itV
        rw [ho1.out, ho2.out, ho3.out, ho4.out, hn1.out, hn2.out, hn3.out, hn4.out, hn5.out]
        rfl)
      have hx2 : Hid (itSs (k + 1) o' = o5) := Lib.hid (by rw [itSs_snoc, hok.out]; unfold itS; rw [ho1.out, ho2.out, ho3.out, ho4.out, ho5.out])
      unfold nv at hn1 hn2 hn3 hn5
      unfold bv at hn4
      rw [hxs.out] at ho
      rw [hok.out] at hr
      obtain ⟨B, hB⟩ : ∃ B, Hid (w.heap.size = B) := ⟨_, Lib.hid rfl⟩
      obtain ⟨ob, hob⟩ : ∃ ob, Hid (u3.ownBlock = ob) := ⟨_, Lib.hid rfl⟩
      have hlo : Hid (∀ j, ob = some j → B ≤ j) := Lib.hid (fun j hj => by rw [← hB.out]; exact (own_lt ho j (hob.out.trans hj)).1)
      have hnb : Hid (∀ j, u3.ownBlock = some j → j ≠ b) := Lib.hid (fun j hj => by have := (own_lt ho j hj).1; have := hbl.out; omega)
      have hnbi : Hid (∀ j, u3.ownBlock = some j → j ≠ bi) := Lib.hid (fun j hj => by have := (own_lt ho j hj).1; have := hbl.out; omega)
      have hk16 : Hid (k < 16) := Lib.hid (by omega)
      have hS0 : Rst bi b wr.drew o0 ∧ wr.drew.ownsRow B 86 5 u3 k xs ∧ B ≤ wr.drew.heap.size := ⟨hr.below (below_drew (Below.refl _ _)), by rw [← hB.out]; exact own_kept ho (below_drew (Below.refl _ _)), by rw [← hB.out]; exact hkp.size⟩
      have hnot : bi ∉ b :: ob.toList := by
        intro hm
        rcases List.mem_cons.1 hm with e | e
        · exact hr.ne e
        · cases hc : ob with
          | none => rw [hc] at e; simp at e
          | some j => rw [hc] at e; simp at e; exact hnbi.out j (hob.out.trans hc) e.symm
      have hI : Hid (∀ W, Keep (b :: ob.toList) wr.drew W → W.cell? ⟨bi, 0, none⟩ = some (.pointer (some ⟨b, 0, none⟩))) := Lib.hid fun W hk => by
        rw [cell_of_row _ _ _ _ _ _ (keep_block hk hS0.1.hbi hnot)]; rfl
      have HNX : Hid (∀ v W, (W.ownsRow B 86 5 v (k + 1) (xs ++ [.int .i64 n1, .int .i64 n2, .int .i64 n3, .bool n4, .int .i64 n5]) ∧ Rst bi b W o5) → Keep (b :: ob.toList) wr.drew W → W.ownsRow w.heap.size 86 5 v (k + 1) ((itemsV (k + 1) o').flatMap encIm) ∧ Rst bi b W (itSs (k + 1) o') ∧ Keep [b] w W) := Lib.hid (fun v W h hk => by
        refine ⟨by rw [hx1.out, hB.out]; exact h.1, by rw [hx2.out]; exact h.2, ?_⟩
        have h1 := hkp.drew
        refine ⟨hk.os.trans h1.os, hk.tape.trans h1.tape, hk.output.trans h1.output, Nat.le_trans h1.size hk.size, fun j hj hjn => ?_⟩
        refine (hk.block j (Nat.lt_of_lt_of_le hj h1.size) (fun hm => ?_)).trans (h1.block j hj hjn)
        rcases List.mem_cons.1 hm with e | e
        · exact hjn (by simp [e])
        · cases hc : ob with
          | none => rw [hc] at e; simp at e
          | some i => rw [hc] at e; simp at e; have := hlo.out i hc; have := hB.out; omega)
      clear ho hr hkp hnot
      go_wp2_with fail
      refine wp_region_done (fun d => fun W => (d 28) = false → Rst bi b W (pick5 (d 5) (d 10) (d 15) (d 20) (d 25) o0 o1 o2 o3 o4 o5) ∧ W.ownsRow B 86 5 u3 k xs ∧ B ≤ W.heap.size) (fun u v => Keep (b :: ob.toList) u v) (fun k u v => (k = 5 → (fun u v => Keep [b] u v) u v) ∧ (k = 10 → (fun u v => Keep [b] u v) u v) ∧ (k = 15 → (fun u v => Keep [b] u v) u v) ∧ (k = 20 → (fun u v => Keep [b] u v) u v) ∧ (k = 25 → (fun u v => Keep [b] u v) u v) ∧ (k = 28 → (fun u v => Keep (b :: ob.toList) u v) u v) ∧ (¬ k = 5 → ¬ k = 10 → ¬ k = 15 → ¬ k = 20 → ¬ k = 25 → ¬ k = 28 → (fun u v => Below u.heap.size u v) u v)) (fun a i => match i with
          | 0 => (fun v _ => v = u3)
          | 1 => (fun v _ => v = .pointer (some ⟨bi, 0, none⟩))
          | 2 => (fun v _ => v = .pointer (some ⟨bi, 0, none⟩))
          | 3 => (fun v _ => v = .pointer (some ⟨bi, 0, none⟩))
          | 4 => (fun v _ => v = .pointer (some ⟨b, 0, none⟩))
          | 5 => (fun v _ => v = .int .i64 n1)
          | 6 => (fun v _ => v = .pointer (some ⟨bi, 0, none⟩))
          | 7 => (fun v _ => v = .pointer (some ⟨bi, 0, none⟩))
          | 8 => (fun v _ => v = .pointer (some ⟨bi, 0, none⟩))
          | 9 => (fun v _ => v = .pointer (some ⟨b, 0, none⟩))
          | 10 => (fun v _ => v = .int .i64 n2)
          | 11 => (fun v _ => v = .pointer (some ⟨bi, 0, none⟩))
          | 12 => (fun v _ => v = .pointer (some ⟨bi, 0, none⟩))
          | 13 => (fun v _ => v = .pointer (some ⟨bi, 0, none⟩))
          | 14 => (fun v _ => v = .pointer (some ⟨b, 0, none⟩))
          | 15 => (fun v _ => v = .int .i64 n3)
          | 16 => (fun v _ => v = .pointer (some ⟨bi, 0, none⟩))
          | 17 => (fun v _ => v = .pointer (some ⟨bi, 0, none⟩))
          | 18 => (fun v _ => v = .pointer (some ⟨bi, 0, none⟩))
          | 19 => (fun v _ => v = .pointer (some ⟨b, 0, none⟩))
          | 20 => (fun v _ => v = .bool n4)
          | 21 => (fun v _ => v = .pointer (some ⟨bi, 0, none⟩))
          | 22 => (fun v _ => v = .pointer (some ⟨bi, 0, none⟩))
          | 23 => (fun v _ => v = .pointer (some ⟨bi, 0, none⟩))
          | 24 => (fun v _ => v = .pointer (some ⟨b, 0, none⟩))
          | 25 => (fun v _ => v = .int .i64 n5)
          | 26 => (fun v _ => v = .agg #[.int .i64 n1, .int .i64 n2, .int .i64 n3, .bool n4, .int .i64 n5])
          | 27 => (fun v W => ∃ j, v = .slice (some ⟨j, 0, none⟩) 1 1 ∧ j < W.heap.size ∧ W.heap[j]? = some (.cells #[.int .i64 n1, .int .i64 n2, .int .i64 n3, .bool n4, .int .i64 n5] 86 (0, 0)))
          | 28 => (fun v W => W.ownsRow B 86 5 v (k + 1) (xs ++ [.int .i64 n1, .int .i64 n2, .int .i64 n3, .bool n4, .int .i64 n5]) ∧ Rst bi b W o5)
          | 29 => (fun v W => W.ownsRow B 86 5 v (k + 1) (xs ++ [.int .i64 n1, .int .i64 n2, .int .i64 n3, .bool n4, .int .i64 n5]) ∧ Rst bi b W o5)
          | _ => (fun _ _ => True)) #[0, 0, 2, 6, 14, 30, 0, 64, 192, 448, 1022, 0, 2048, 6144, 14336, 32766, 0, 65536, 196608, 458752, 1048574, 0, 2097152, 6291456, 14680064, 33554430, 67108862, 134217726, 268435455, 536870911] #[0, 0, 2, 4, 8, 16, 0, 64, 128, 256, 512, 0, 2048, 4096, 8192, 16384, 0, 65536, 131072, 262144, 524288, 0, 2097152, 4194304, 8388608, 16777216, 34636832, 67108864, 134217729, 268435456] 671088639 (by kernel_rfl) 30 rfl (fun m hm => by subst hm; kernel_rfl) (by kernel_rfl) (fun w => Keep.refl _ w) (fun u v w h1 h2 => h1.trans h2) ?_ ?_ (fun _ => hS0) ?_ ?_
      · intro k u v hk hr
        by_cases hs5 : k = 5
        · have h := hr.1 hs5; exact h.mono (by simp)
        by_cases hs10 : k = 10
        · have h := hr.2.1 hs10; exact h.mono (by simp)
        by_cases hs15 : k = 15
        · have h := hr.2.2.1 hs15; exact h.mono (by simp)
        by_cases hs20 : k = 20
        · have h := hr.2.2.2.1 hs20; exact h.mono (by simp)
        by_cases hs25 : k = 25
        · have h := hr.2.2.2.2.1 hs25; exact h.mono (by simp)
        by_cases hs28 : k = 28
        · have h := hr.2.2.2.2.2.1 hs28; exact h
        have h := hr.2.2.2.2.2.2 hs5 hs10 hs15 hs20 hs25 hs28; exact Keep.of_below h
      · intro i hi
        rcases (by omega : i = 0 ∨ i = 1 ∨ i = 2 ∨ i = 3 ∨ i = 4 ∨ i = 5 ∨ i = 6 ∨ i = 7 ∨ i = 8 ∨ i = 9 ∨ i = 10 ∨ i = 11 ∨ i = 12 ∨ i = 13 ∨ i = 14 ∨ i = 15 ∨ i = 16 ∨ i = 17 ∨ i = 18 ∨ i = 19 ∨ i = 20 ∨ i = 21 ∨ i = 22 ∨ i = 23 ∨ i = 24 ∨ i = 25 ∨ i = 26 ∨ i = 27 ∨ i = 28 ∨ i = 29) with rfl | rfl | rfl | rfl | rfl | rfl | rfl | rfl | rfl | rfl | rfl | rfl | rfl | rfl | rfl | rfl | rfl | rfl | rfl | rfl | rfl | rfl | rfl | rfl | rfl | rfl | rfl | rfl | rfl | rfl
        · intro k hk y hy hyt v w w' h hr
          exact h
        · intro k hk y hy hyt v w w' h hr
          exact h
        · intro k hk y hy hyt v w w' h hr
          exact h
        · intro k hk y hy hyt v w w' h hr
          exact h
        · intro k hk y hy hyt v w w' h hr
          exact h
        · intro k hk y hy hyt v w w' h hr
          exact h
        · intro k hk y hy hyt v w w' h hr
          exact h
        · intro k hk y hy hyt v w w' h hr
          exact h
        · intro k hk y hy hyt v w w' h hr
          exact h
        · intro k hk y hy hyt v w w' h hr
          exact h
        · intro k hk y hy hyt v w w' h hr
          exact h
        · intro k hk y hy hyt v w w' h hr
          exact h
        · intro k hk y hy hyt v w w' h hr
          exact h
        · intro k hk y hy hyt v w w' h hr
          exact h
        · intro k hk y hy hyt v w w' h hr
          exact h
        · intro k hk y hy hyt v w w' h hr
          exact h
        · intro k hk y hy hyt v w w' h hr
          exact h
        · intro k hk y hy hyt v w w' h hr
          exact h
        · intro k hk y hy hyt v w w' h hr
          exact h
        · intro k hk y hy hyt v w w' h hr
          exact h
        · intro k hk y hy hyt v w w' h hr
          exact h
        · intro k hk y hy hyt v w w' h hr
          exact h
        · intro k hk y hy hyt v w w' h hr
          exact h
        · intro k hk y hy hyt v w w' h hr
          exact h
        · intro k hk y hy hyt v w w' h hr
          exact h
        · intro k hk y hy hyt v w w' h hr
          exact h
        · intro k hk y hy hyt v w w' h hr
          exact h
        · intro k hk y hy hyt v w w' h hr
          by_cases hs5 : k = 5
          · have hr0 := hr.1 hs5
            subst hs5
            exact absurd (hy.trans hyt) (ne_true_of_eq_false (by kernel_rfl))
          by_cases hs10 : k = 10
          · have hr0 := hr.2.1 hs10
            subst hs10
            exact absurd (hy.trans hyt) (ne_true_of_eq_false (by kernel_rfl))
          by_cases hs15 : k = 15
          · have hr0 := hr.2.2.1 hs15
            subst hs15
            exact absurd (hy.trans hyt) (ne_true_of_eq_false (by kernel_rfl))
          by_cases hs20 : k = 20
          · have hr0 := hr.2.2.2.1 hs20
            subst hs20
            exact absurd (hy.trans hyt) (ne_true_of_eq_false (by kernel_rfl))
          by_cases hs25 : k = 25
          · have hr0 := hr.2.2.2.2.1 hs25
            subst hs25
            exact absurd (hy.trans hyt) (ne_true_of_eq_false (by kernel_rfl))
          by_cases hs28 : k = 28
          · have hr0 := hr.2.2.2.2.2.1 hs28
            subst hs28
            exact absurd (hy.trans hyt) (ne_true_of_eq_false (by kernel_rfl))
          have hr := hr.2.2.2.2.2.2 hs5 hs10 hs15 hs20 hs25 hs28
          obtain ⟨j, h1, h2, h3⟩ := h; exact ⟨j, h1, Nat.lt_of_lt_of_le h2 hr.size, (hr.block j h2).trans h3⟩
        · intro k hk y hy hyt v w w' h hr
          by_cases hs5 : k = 5
          · have hr0 := hr.1 hs5
            subst hs5
            exact absurd (hy.trans hyt) (ne_true_of_eq_false (by kernel_rfl))
          by_cases hs10 : k = 10
          · have hr0 := hr.2.1 hs10
            subst hs10
            exact absurd (hy.trans hyt) (ne_true_of_eq_false (by kernel_rfl))
          by_cases hs15 : k = 15
          · have hr0 := hr.2.2.1 hs15
            subst hs15
            exact absurd (hy.trans hyt) (ne_true_of_eq_false (by kernel_rfl))
          by_cases hs20 : k = 20
          · have hr0 := hr.2.2.2.1 hs20
            subst hs20
            exact absurd (hy.trans hyt) (ne_true_of_eq_false (by kernel_rfl))
          by_cases hs25 : k = 25
          · have hr0 := hr.2.2.2.2.1 hs25
            subst hs25
            exact absurd (hy.trans hyt) (ne_true_of_eq_false (by kernel_rfl))
          by_cases hs28 : k = 28
          · have hr0 := hr.2.2.2.2.2.1 hs28
            subst hs28
            exact absurd (hy.trans hyt) (ne_true_of_eq_false (by kernel_rfl))
          have hr := hr.2.2.2.2.2.2 hs5 hs10 hs15 hs20 hs25 hs28
          exact ⟨own_kept h.1 hr, h.2.below hr⟩
        · intro k hk y hy hyt v w w' h hr
          by_cases hs5 : k = 5
          · have hr0 := hr.1 hs5
            subst hs5
            exact absurd (hy.trans hyt) (ne_true_of_eq_false (by kernel_rfl))
          by_cases hs10 : k = 10
          · have hr0 := hr.2.1 hs10
            subst hs10
            exact absurd (hy.trans hyt) (ne_true_of_eq_false (by kernel_rfl))
          by_cases hs15 : k = 15
          · have hr0 := hr.2.2.1 hs15
            subst hs15
            exact absurd (hy.trans hyt) (ne_true_of_eq_false (by kernel_rfl))
          by_cases hs20 : k = 20
          · have hr0 := hr.2.2.2.1 hs20
            subst hs20
            exact absurd (hy.trans hyt) (ne_true_of_eq_false (by kernel_rfl))
          by_cases hs25 : k = 25
          · have hr0 := hr.2.2.2.2.1 hs25
            subst hs25
            exact absurd (hy.trans hyt) (ne_true_of_eq_false (by kernel_rfl))
          by_cases hs28 : k = 28
          · have hr0 := hr.2.2.2.2.2.1 hs28
            subst hs28
            exact absurd (hy.trans hyt) (ne_true_of_eq_false (by kernel_rfl))
          have hr := hr.2.2.2.2.2.2 hs5 hs10 hs15 hs20 hs25 hs28
          exact ⟨own_kept h.1 hr, h.2.below hr⟩
      · intro i hi
        rcases (by omega : i = 0 ∨ i = 1 ∨ i = 2 ∨ i = 3 ∨ i = 4 ∨ i = 5 ∨ i = 6 ∨ i = 7 ∨ i = 8 ∨ i = 9 ∨ i = 10 ∨ i = 11 ∨ i = 12 ∨ i = 13 ∨ i = 14 ∨ i = 15 ∨ i = 16 ∨ i = 17 ∨ i = 18 ∨ i = 19 ∨ i = 20 ∨ i = 21 ∨ i = 22 ∨ i = 23 ∨ i = 24 ∨ i = 25 ∨ i = 26 ∨ i = 27 ∨ i = 28 ∨ i = 29) with rfl | rfl | rfl | rfl | rfl | rfl | rfl | rfl | rfl | rfl | rfl | rfl | rfl | rfl | rfl | rfl | rfl | rfl | rfl | rfl | rfl | rfl | rfl | rfl | rfl | rfl | rfl | rfl | rfl | rfl
        · -- 0: Op.move (Operand.tmp 3)
          intro l hl vs W dn e1 e2 e3 hS hR hp
          have f5 : dn 5 = dn 5 := rfl
          have f10 : dn 10 = dn 10 := rfl
          have f15 : dn 15 = dn 15 := rfl
          have f20 : dn 20 = dn 20 := rfl
          have f25 : dn 25 = dn 25 := rfl
          have f28 : dn 28 = false := e3 28 (by kernel_rfl)
          replace hS : (fun W => (dn 28) = false → Rst bi b W (pick5 (dn 5) (dn 10) (dn 15) (dn 20) (dn 25) o0 o1 o2 o3 o4 o5) ∧ W.ownsRow B 86 5 u3 k xs ∧ B ≤ W.heap.size) W := hS
          rw [f28] at hS
          have g5 : (dn 5 || ((0 : Nat) == 5)) = dn 5 := Bool.or_false _
          have g10 : (dn 10 || ((0 : Nat) == 10)) = dn 10 := Bool.or_false _
          have g15 : (dn 15 || ((0 : Nat) == 15)) = dn 15 := Bool.or_false _
          have g20 : (dn 20 || ((0 : Nat) == 20)) = dn 20 := Bool.or_false _
          have g25 : (dn 25 || ((0 : Nat) == 25)) = dn 25 := Bool.or_false _
          have g28 : (dn 28 || ((0 : Nat) == 28)) = false := by rw [f28]; rfl
          refine OpGoal.imp (S1 := fun W => false = false → Rst bi b W (pick5 (dn 5) (dn 10) (dn 15) (dn 20) (dn 25) o0 o1 o2 o3 o4 o5) ∧ W.ownsRow B 86 5 u3 k xs ∧ B ≤ W.heap.size) (fun W' h => ?_) ?_
          · show (fun W => (dn 28 || ((0 : Nat) == 28)) = false → Rst bi b W (pick5 (dn 5 || ((0 : Nat) == 5)) (dn 10 || ((0 : Nat) == 10)) (dn 15 || ((0 : Nat) == 15)) (dn 20 || ((0 : Nat) == 20)) (dn 25 || ((0 : Nat) == 25)) o0 o1 o2 o3 o4 o5) ∧ W.ownsRow B 86 5 u3 k xs ∧ B ≤ W.heap.size) W'
            rw [g5, g10, g15, g20, g25, g28]
            exact h
          clear g5 g10 g15 g20 g25 g28 e1 e2 e3
          obtain rfl : l = [] := hl.symm.trans (by kernel_rfl)
          clear hp hl
          refine opgoal (_) (some 8) rfl rfl fun K hK => ?_
          refine Runs.mk ?_
          simp only [putAll]
          go_simp
          refine hK _ _ ?_ hS ⟨fun h => absurd h (by decide), fun h => absurd h (by decide), fun h => absurd h (by decide), fun h => absurd h (by decide), fun h => absurd h (by decide), fun h => absurd h (by decide), fun h5 h10 h15 h20 h25 h28 => ((fun w => Below.refl _ w) W)⟩ _ rfl rfl
          first | rfl | go_simp | simp
        · -- 1: Op.move (Operand.tmp 0)
          intro l hl vs W dn e1 e2 e3 hS hR hp
          have f5 : dn 5 = false := e3 5 (by kernel_rfl)
          have f10 : dn 10 = false := e3 10 (by kernel_rfl)
          have f15 : dn 15 = false := e3 15 (by kernel_rfl)
          have f20 : dn 20 = false := e3 20 (by kernel_rfl)
          have f25 : dn 25 = false := e3 25 (by kernel_rfl)
          have f28 : dn 28 = false := e3 28 (by kernel_rfl)
          replace hS : (fun W => (dn 28) = false → Rst bi b W (pick5 (dn 5) (dn 10) (dn 15) (dn 20) (dn 25) o0 o1 o2 o3 o4 o5) ∧ W.ownsRow B 86 5 u3 k xs ∧ B ≤ W.heap.size) W := hS
          rw [f5, f10, f15, f20, f25, f28] at hS
          have g5 : (dn 5 || ((1 : Nat) == 5)) = false := by rw [f5]; rfl
          have g10 : (dn 10 || ((1 : Nat) == 10)) = false := by rw [f10]; rfl
          have g15 : (dn 15 || ((1 : Nat) == 15)) = false := by rw [f15]; rfl
          have g20 : (dn 20 || ((1 : Nat) == 20)) = false := by rw [f20]; rfl
          have g25 : (dn 25 || ((1 : Nat) == 25)) = false := by rw [f25]; rfl
          have g28 : (dn 28 || ((1 : Nat) == 28)) = false := by rw [f28]; rfl
          refine OpGoal.imp (S1 := fun W => false = false → Rst bi b W (pick5 false false false false false o0 o1 o2 o3 o4 o5) ∧ W.ownsRow B 86 5 u3 k xs ∧ B ≤ W.heap.size) (fun W' h => ?_) ?_
          · show (fun W => (dn 28 || ((1 : Nat) == 28)) = false → Rst bi b W (pick5 (dn 5 || ((1 : Nat) == 5)) (dn 10 || ((1 : Nat) == 10)) (dn 15 || ((1 : Nat) == 15)) (dn 20 || ((1 : Nat) == 20)) (dn 25 || ((1 : Nat) == 25)) o0 o1 o2 o3 o4 o5) ∧ W.ownsRow B 86 5 u3 k xs ∧ B ≤ W.heap.size) W'
            rw [g5, g10, g15, g20, g25, g28]
            exact h
          clear g5 g10 g15 g20 g25 g28 e1 e2 e3
          obtain rfl : l = [] := hl.symm.trans (by kernel_rfl)
          clear hp hl
          refine opgoal (_) (some 9) rfl rfl fun K hK => ?_
          refine Runs.mk ?_
          simp only [putAll]
          go_simp
          refine hK _ _ ?_ hS ⟨fun h => absurd h (by decide), fun h => absurd h (by decide), fun h => absurd h (by decide), fun h => absurd h (by decide), fun h => absurd h (by decide), fun h => absurd h (by decide), fun h5 h10 h15 h20 h25 h28 => ((fun w => Below.refl _ w) W)⟩ _ rfl rfl
          first | rfl | go_simp | simp
        · -- 2: Op.nilCheck (Operand.tmp 9)
          intro l hl vs W dn e1 e2 e3 hS hR hp
          have f5 : dn 5 = false := e3 5 (by kernel_rfl)
          have f10 : dn 10 = false := e3 10 (by kernel_rfl)
          have f15 : dn 15 = false := e3 15 (by kernel_rfl)
          have f20 : dn 20 = false := e3 20 (by kernel_rfl)
          have f25 : dn 25 = false := e3 25 (by kernel_rfl)
          have f28 : dn 28 = false := e3 28 (by kernel_rfl)
          replace hS : (fun W => (dn 28) = false → Rst bi b W (pick5 (dn 5) (dn 10) (dn 15) (dn 20) (dn 25) o0 o1 o2 o3 o4 o5) ∧ W.ownsRow B 86 5 u3 k xs ∧ B ≤ W.heap.size) W := hS
          rw [f5, f10, f15, f20, f25, f28] at hS
          have g5 : (dn 5 || ((2 : Nat) == 5)) = false := by rw [f5]; rfl
          have g10 : (dn 10 || ((2 : Nat) == 10)) = false := by rw [f10]; rfl
          have g15 : (dn 15 || ((2 : Nat) == 15)) = false := by rw [f15]; rfl
          have g20 : (dn 20 || ((2 : Nat) == 20)) = false := by rw [f20]; rfl
          have g25 : (dn 25 || ((2 : Nat) == 25)) = false := by rw [f25]; rfl
          have g28 : (dn 28 || ((2 : Nat) == 28)) = false := by rw [f28]; rfl
          refine OpGoal.imp (S1 := fun W => false = false → Rst bi b W (pick5 false false false false false o0 o1 o2 o3 o4 o5) ∧ W.ownsRow B 86 5 u3 k xs ∧ B ≤ W.heap.size) (fun W' h => ?_) ?_
          · show (fun W => (dn 28 || ((2 : Nat) == 28)) = false → Rst bi b W (pick5 (dn 5 || ((2 : Nat) == 5)) (dn 10 || ((2 : Nat) == 10)) (dn 15 || ((2 : Nat) == 15)) (dn 20 || ((2 : Nat) == 20)) (dn 25 || ((2 : Nat) == 25)) o0 o1 o2 o3 o4 o5) ∧ W.ownsRow B 86 5 u3 k xs ∧ B ≤ W.heap.size) W'
            rw [g5, g10, g15, g20, g25, g28]
            exact h
          clear g5 g10 g15 g20 g25 g28 e1 e2 e3
          obtain rfl : l = [(1, 9)] := hl.symm.trans (by kernel_rfl)
          have p1 : vs 1 = _ := hp 1 (by decide) (by decide)
          clear hp hl
          refine opgoal (_) (some 10) rfl rfl fun K hK => ?_
          refine Runs.mk ?_
          simp only [putAll]
          go_simp
          refine hK _ _ ?_ hS ⟨fun h => absurd h (by decide), fun h => absurd h (by decide), fun h => absurd h (by decide), fun h => absurd h (by decide), fun h => absurd h (by decide), fun h => absurd h (by decide), fun h5 h10 h15 h20 h25 h28 => ((fun w => Below.refl _ w) W)⟩ _ rfl rfl
          first | rfl | go_simp | simp
        · -- 3: Op.fieldAddr 78 (Operand.tmp 10) 0
          intro l hl vs W dn e1 e2 e3 hS hR hp
          have f5 : dn 5 = false := e3 5 (by kernel_rfl)
          have f10 : dn 10 = false := e3 10 (by kernel_rfl)
          have f15 : dn 15 = false := e3 15 (by kernel_rfl)
          have f20 : dn 20 = false := e3 20 (by kernel_rfl)
          have f25 : dn 25 = false := e3 25 (by kernel_rfl)
          have f28 : dn 28 = false := e3 28 (by kernel_rfl)
          replace hS : (fun W => (dn 28) = false → Rst bi b W (pick5 (dn 5) (dn 10) (dn 15) (dn 20) (dn 25) o0 o1 o2 o3 o4 o5) ∧ W.ownsRow B 86 5 u3 k xs ∧ B ≤ W.heap.size) W := hS
          rw [f5, f10, f15, f20, f25, f28] at hS
          have g5 : (dn 5 || ((3 : Nat) == 5)) = false := by rw [f5]; rfl
          have g10 : (dn 10 || ((3 : Nat) == 10)) = false := by rw [f10]; rfl
          have g15 : (dn 15 || ((3 : Nat) == 15)) = false := by rw [f15]; rfl
          have g20 : (dn 20 || ((3 : Nat) == 20)) = false := by rw [f20]; rfl
          have g25 : (dn 25 || ((3 : Nat) == 25)) = false := by rw [f25]; rfl
          have g28 : (dn 28 || ((3 : Nat) == 28)) = false := by rw [f28]; rfl
          refine OpGoal.imp (S1 := fun W => false = false → Rst bi b W (pick5 false false false false false o0 o1 o2 o3 o4 o5) ∧ W.ownsRow B 86 5 u3 k xs ∧ B ≤ W.heap.size) (fun W' h => ?_) ?_
          · show (fun W => (dn 28 || ((3 : Nat) == 28)) = false → Rst bi b W (pick5 (dn 5 || ((3 : Nat) == 5)) (dn 10 || ((3 : Nat) == 10)) (dn 15 || ((3 : Nat) == 15)) (dn 20 || ((3 : Nat) == 20)) (dn 25 || ((3 : Nat) == 25)) o0 o1 o2 o3 o4 o5) ∧ W.ownsRow B 86 5 u3 k xs ∧ B ≤ W.heap.size) W'
            rw [g5, g10, g15, g20, g25, g28]
            exact h
          clear g5 g10 g15 g20 g25 g28 e1 e2 e3
          obtain rfl : l = [(1, 9), (2, 10)] := hl.symm.trans (by kernel_rfl)
          have p2 : vs 2 = _ := hp 2 (by decide) (by decide)
          clear hp hl
          refine opgoal (_) (some 11) rfl rfl fun K hK => ?_
          refine Runs.mk ?_
          simp only [putAll]
          go_simp
          refine hK _ _ ?_ hS ⟨fun h => absurd h (by decide), fun h => absurd h (by decide), fun h => absurd h (by decide), fun h => absurd h (by decide), fun h => absurd h (by decide), fun h => absurd h (by decide), fun h5 h10 h15 h20 h25 h28 => ((fun w => Below.refl _ w) W)⟩ _ rfl rfl
          first | rfl | go_simp | simp
        · -- 4: Op.load 37 (Operand.tmp 11)
          intro l hl vs W dn e1 e2 e3 hS hR hp
          have f5 : dn 5 = false := e3 5 (by kernel_rfl)
          have f10 : dn 10 = false := e3 10 (by kernel_rfl)
          have f15 : dn 15 = false := e3 15 (by kernel_rfl)
          have f20 : dn 20 = false := e3 20 (by kernel_rfl)
          have f25 : dn 25 = false := e3 25 (by kernel_rfl)
          have f28 : dn 28 = false := e3 28 (by kernel_rfl)
          replace hS : (fun W => (dn 28) = false → Rst bi b W (pick5 (dn 5) (dn 10) (dn 15) (dn 20) (dn 25) o0 o1 o2 o3 o4 o5) ∧ W.ownsRow B 86 5 u3 k xs ∧ B ≤ W.heap.size) W := hS
          rw [f5, f10, f15, f20, f25, f28] at hS
          have g5 : (dn 5 || ((4 : Nat) == 5)) = false := by rw [f5]; rfl
          have g10 : (dn 10 || ((4 : Nat) == 10)) = false := by rw [f10]; rfl
          have g15 : (dn 15 || ((4 : Nat) == 15)) = false := by rw [f15]; rfl
          have g20 : (dn 20 || ((4 : Nat) == 20)) = false := by rw [f20]; rfl
          have g25 : (dn 25 || ((4 : Nat) == 25)) = false := by rw [f25]; rfl
          have g28 : (dn 28 || ((4 : Nat) == 28)) = false := by rw [f28]; rfl
          refine OpGoal.imp (S1 := fun W => false = false → Rst bi b W (pick5 false false false false false o0 o1 o2 o3 o4 o5) ∧ W.ownsRow B 86 5 u3 k xs ∧ B ≤ W.heap.size) (fun W' h => ?_) ?_
          · show (fun W => (dn 28 || ((4 : Nat) == 28)) = false → Rst bi b W (pick5 (dn 5 || ((4 : Nat) == 5)) (dn 10 || ((4 : Nat) == 10)) (dn 15 || ((4 : Nat) == 15)) (dn 20 || ((4 : Nat) == 20)) (dn 25 || ((4 : Nat) == 25)) o0 o1 o2 o3 o4 o5) ∧ W.ownsRow B 86 5 u3 k xs ∧ B ≤ W.heap.size) W'
            rw [g5, g10, g15, g20, g25, g28]
            exact h
          clear g5 g10 g15 g20 g25 g28 e1 e2 e3
          obtain rfl : l = [(1, 9), (2, 10), (3, 11)] := hl.symm.trans (by kernel_rfl)
          have p3 : vs 3 = _ := hp 3 (by decide) (by decide)
          clear hp hl
          refine opgoal (_) (some 12) rfl rfl fun K hK => ?_
          have hi0 := hI.out W hR
          refine Runs.mk ?_
          simp only [putAll]
          go_simp
          refine hK _ _ ?_ hS ⟨fun h => absurd h (by decide), fun h => absurd h (by decide), fun h => absurd h (by decide), fun h => absurd h (by decide), fun h => absurd h (by decide), fun h => absurd h (by decide), fun h5 h10 h15 h20 h25 h28 => ((fun w => Below.refl _ w) W)⟩ _ rfl rfl
          first | rfl | go_simp | simp
        · -- 5: Op.call { callee := Callee.value (Operand.func 85), args := #[Operand.tmp 12], argTypes := #[37] }
          intro l hl vs W dn e1 e2 e3 hS hR hp
          have f5 : dn 5 = false := e1
          have f10 : dn 10 = false := e3 10 (by kernel_rfl)
          have f15 : dn 15 = false := e3 15 (by kernel_rfl)
          have f20 : dn 20 = false := e3 20 (by kernel_rfl)
          have f25 : dn 25 = false := e3 25 (by kernel_rfl)
          have f28 : dn 28 = false := e3 28 (by kernel_rfl)
          replace hS : (fun W => (dn 28) = false → Rst bi b W (pick5 (dn 5) (dn 10) (dn 15) (dn 20) (dn 25) o0 o1 o2 o3 o4 o5) ∧ W.ownsRow B 86 5 u3 k xs ∧ B ≤ W.heap.size) W := hS
          rw [f5, f10, f15, f20, f25, f28] at hS
          have g5 : (dn 5 || ((5 : Nat) == 5)) = true := by rw [f5]; rfl
          have g10 : (dn 10 || ((5 : Nat) == 10)) = false := by rw [f10]; rfl
          have g15 : (dn 15 || ((5 : Nat) == 15)) = false := by rw [f15]; rfl
          have g20 : (dn 20 || ((5 : Nat) == 20)) = false := by rw [f20]; rfl
          have g25 : (dn 25 || ((5 : Nat) == 25)) = false := by rw [f25]; rfl
          have g28 : (dn 28 || ((5 : Nat) == 28)) = false := by rw [f28]; rfl
          refine OpGoal.imp (S1 := fun W => false = false → Rst bi b W (pick5 true false false false false o0 o1 o2 o3 o4 o5) ∧ W.ownsRow B 86 5 u3 k xs ∧ B ≤ W.heap.size) (fun W' h => ?_) ?_
          · show (fun W => (dn 28 || ((5 : Nat) == 28)) = false → Rst bi b W (pick5 (dn 5 || ((5 : Nat) == 5)) (dn 10 || ((5 : Nat) == 10)) (dn 15 || ((5 : Nat) == 15)) (dn 20 || ((5 : Nat) == 20)) (dn 25 || ((5 : Nat) == 25)) o0 o1 o2 o3 o4 o5) ∧ W.ownsRow B 86 5 u3 k xs ∧ B ≤ W.heap.size) W'
            rw [g5, g10, g15, g20, g25, g28]
            exact h
          clear g5 g10 g15 g20 g25 g28 e1 e2 e3
          obtain rfl : l = [(1, 9), (2, 10), (3, 11), (4, 12)] := hl.symm.trans (by kernel_rfl)
          have p4 : vs 4 = _ := hp 4 (by decide) (by decide)
          clear hp hl
          refine opgoal (_) (some 13) rfl rfl fun K hK => ?_
          refine Runs.mk ?_
          simp only [putAll]
          go_simp
          refine (num_read b o0.1 o0.2 W (hS rfl).1.rd hz0.out).mono ?_
          rintro e w' ⟨he, hr, hk⟩
          rw [hn1.out] at he
          subst he
          rw [hs1.out, hq1.out] at hr
          go_simp
          exact hK _ _ rfl (fun _ => ⟨(hS rfl).1.step hr hk, own_keep (hS rfl).2.1 hk (fun j hj => by have := hnb.out j hj; simpa using this), Nat.le_trans (hS rfl).2.2 hk.size⟩) ⟨fun _ => hk, fun h => absurd h (by decide), fun h => absurd h (by decide), fun h => absurd h (by decide), fun h => absurd h (by decide), fun h => absurd h (by decide), fun h5 h10 h15 h20 h25 h28 => absurd rfl h5⟩ _ rfl rfl
        · -- 6: Op.move (Operand.tmp 0)
          intro l hl vs W dn e1 e2 e3 hS hR hp
          have f5 : dn 5 = dn 5 := rfl
          have f10 : dn 10 = false := e3 10 (by kernel_rfl)
          have f15 : dn 15 = false := e3 15 (by kernel_rfl)
          have f20 : dn 20 = false := e3 20 (by kernel_rfl)
          have f25 : dn 25 = false := e3 25 (by kernel_rfl)
          have f28 : dn 28 = false := e3 28 (by kernel_rfl)
          replace hS : (fun W => (dn 28) = false → Rst bi b W (pick5 (dn 5) (dn 10) (dn 15) (dn 20) (dn 25) o0 o1 o2 o3 o4 o5) ∧ W.ownsRow B 86 5 u3 k xs ∧ B ≤ W.heap.size) W := hS
          rw [f10, f15, f20, f25, f28] at hS
          have g5 : (dn 5 || ((6 : Nat) == 5)) = dn 5 := Bool.or_false _
          have g10 : (dn 10 || ((6 : Nat) == 10)) = false := by rw [f10]; rfl
          have g15 : (dn 15 || ((6 : Nat) == 15)) = false := by rw [f15]; rfl
          have g20 : (dn 20 || ((6 : Nat) == 20)) = false := by rw [f20]; rfl
          have g25 : (dn 25 || ((6 : Nat) == 25)) = false := by rw [f25]; rfl
          have g28 : (dn 28 || ((6 : Nat) == 28)) = false := by rw [f28]; rfl
          refine OpGoal.imp (S1 := fun W => false = false → Rst bi b W (pick5 (dn 5) false false false false o0 o1 o2 o3 o4 o5) ∧ W.ownsRow B 86 5 u3 k xs ∧ B ≤ W.heap.size) (fun W' h => ?_) ?_
          · show (fun W => (dn 28 || ((6 : Nat) == 28)) = false → Rst bi b W (pick5 (dn 5 || ((6 : Nat) == 5)) (dn 10 || ((6 : Nat) == 10)) (dn 15 || ((6 : Nat) == 15)) (dn 20 || ((6 : Nat) == 20)) (dn 25 || ((6 : Nat) == 25)) o0 o1 o2 o3 o4 o5) ∧ W.ownsRow B 86 5 u3 k xs ∧ B ≤ W.heap.size) W'
            rw [g5, g10, g15, g20, g25, g28]
            exact h
          clear g5 g10 g15 g20 g25 g28 e1 e2 e3
          obtain rfl : l = [] := hl.symm.trans (by kernel_rfl)
          clear hp hl
          refine opgoal (_) (some 14) rfl rfl fun K hK => ?_
          refine Runs.mk ?_
          simp only [putAll]
          go_simp
          refine hK _ _ ?_ hS ⟨fun h => absurd h (by decide), fun h => absurd h (by decide), fun h => absurd h (by decide), fun h => absurd h (by decide), fun h => absurd h (by decide), fun h => absurd h (by decide), fun h5 h10 h15 h20 h25 h28 => ((fun w => Below.refl _ w) W)⟩ _ rfl rfl
          first | rfl | go_simp | simp
        · -- 7: Op.nilCheck (Operand.tmp 14)
          intro l hl vs W dn e1 e2 e3 hS hR hp
          have f5 : dn 5 = dn 5 := rfl
          have f10 : dn 10 = false := e3 10 (by kernel_rfl)
          have f15 : dn 15 = false := e3 15 (by kernel_rfl)
          have f20 : dn 20 = false := e3 20 (by kernel_rfl)
          have f25 : dn 25 = false := e3 25 (by kernel_rfl)
          have f28 : dn 28 = false := e3 28 (by kernel_rfl)
          replace hS : (fun W => (dn 28) = false → Rst bi b W (pick5 (dn 5) (dn 10) (dn 15) (dn 20) (dn 25) o0 o1 o2 o3 o4 o5) ∧ W.ownsRow B 86 5 u3 k xs ∧ B ≤ W.heap.size) W := hS
          rw [f10, f15, f20, f25, f28] at hS
          have g5 : (dn 5 || ((7 : Nat) == 5)) = dn 5 := Bool.or_false _
          have g10 : (dn 10 || ((7 : Nat) == 10)) = false := by rw [f10]; rfl
          have g15 : (dn 15 || ((7 : Nat) == 15)) = false := by rw [f15]; rfl
          have g20 : (dn 20 || ((7 : Nat) == 20)) = false := by rw [f20]; rfl
          have g25 : (dn 25 || ((7 : Nat) == 25)) = false := by rw [f25]; rfl
          have g28 : (dn 28 || ((7 : Nat) == 28)) = false := by rw [f28]; rfl
          refine OpGoal.imp (S1 := fun W => false = false → Rst bi b W (pick5 (dn 5) false false false false o0 o1 o2 o3 o4 o5) ∧ W.ownsRow B 86 5 u3 k xs ∧ B ≤ W.heap.size) (fun W' h => ?_) ?_
          · show (fun W => (dn 28 || ((7 : Nat) == 28)) = false → Rst bi b W (pick5 (dn 5 || ((7 : Nat) == 5)) (dn 10 || ((7 : Nat) == 10)) (dn 15 || ((7 : Nat) == 15)) (dn 20 || ((7 : Nat) == 20)) (dn 25 || ((7 : Nat) == 25)) o0 o1 o2 o3 o4 o5) ∧ W.ownsRow B 86 5 u3 k xs ∧ B ≤ W.heap.size) W'
            rw [g5, g10, g15, g20, g25, g28]
            exact h
          clear g5 g10 g15 g20 g25 g28 e1 e2 e3
          obtain rfl : l = [(6, 14)] := hl.symm.trans (by kernel_rfl)
          have p6 : vs 6 = _ := hp 6 (by decide) (by decide)
          clear hp hl
          refine opgoal (_) (some 15) rfl rfl fun K hK => ?_
          refine Runs.mk ?_
          simp only [putAll]
          go_simp
          refine hK _ _ ?_ hS ⟨fun h => absurd h (by decide), fun h => absurd h (by decide), fun h => absurd h (by decide), fun h => absurd h (by decide), fun h => absurd h (by decide), fun h => absurd h (by decide), fun h5 h10 h15 h20 h25 h28 => ((fun w => Below.refl _ w) W)⟩ _ rfl rfl
          first | rfl | go_simp | simp
        · -- 8: Op.fieldAddr 78 (Operand.tmp 15) 0
          intro l hl vs W dn e1 e2 e3 hS hR hp
          have f5 : dn 5 = dn 5 := rfl
          have f10 : dn 10 = false := e3 10 (by kernel_rfl)
          have f15 : dn 15 = false := e3 15 (by kernel_rfl)
          have f20 : dn 20 = false := e3 20 (by kernel_rfl)
          have f25 : dn 25 = false := e3 25 (by kernel_rfl)
          have f28 : dn 28 = false := e3 28 (by kernel_rfl)
          replace hS : (fun W => (dn 28) = false → Rst bi b W (pick5 (dn 5) (dn 10) (dn 15) (dn 20) (dn 25) o0 o1 o2 o3 o4 o5) ∧ W.ownsRow B 86 5 u3 k xs ∧ B ≤ W.heap.size) W := hS
          rw [f10, f15, f20, f25, f28] at hS
          have g5 : (dn 5 || ((8 : Nat) == 5)) = dn 5 := Bool.or_false _
          have g10 : (dn 10 || ((8 : Nat) == 10)) = false := by rw [f10]; rfl
          have g15 : (dn 15 || ((8 : Nat) == 15)) = false := by rw [f15]; rfl
          have g20 : (dn 20 || ((8 : Nat) == 20)) = false := by rw [f20]; rfl
          have g25 : (dn 25 || ((8 : Nat) == 25)) = false := by rw [f25]; rfl
          have g28 : (dn 28 || ((8 : Nat) == 28)) = false := by rw [f28]; rfl
          refine OpGoal.imp (S1 := fun W => false = false → Rst bi b W (pick5 (dn 5) false false false false o0 o1 o2 o3 o4 o5) ∧ W.ownsRow B 86 5 u3 k xs ∧ B ≤ W.heap.size) (fun W' h => ?_) ?_
          · show (fun W => (dn 28 || ((8 : Nat) == 28)) = false → Rst bi b W (pick5 (dn 5 || ((8 : Nat) == 5)) (dn 10 || ((8 : Nat) == 10)) (dn 15 || ((8 : Nat) == 15)) (dn 20 || ((8 : Nat) == 20)) (dn 25 || ((8 : Nat) == 25)) o0 o1 o2 o3 o4 o5) ∧ W.ownsRow B 86 5 u3 k xs ∧ B ≤ W.heap.size) W'
            rw [g5, g10, g15, g20, g25, g28]
            exact h
          clear g5 g10 g15 g20 g25 g28 e1 e2 e3
          obtain rfl : l = [(6, 14), (7, 15)] := hl.symm.trans (by kernel_rfl)
          have p7 : vs 7 = _ := hp 7 (by decide) (by decide)
          clear hp hl
          refine opgoal (_) (some 16) rfl rfl fun K hK => ?_
          refine Runs.mk ?_
          simp only [putAll]
          go_simp
          refine hK _ _ ?_ hS ⟨fun h => absurd h (by decide), fun h => absurd h (by decide), fun h => absurd h (by decide), fun h => absurd h (by decide), fun h => absurd h (by decide), fun h => absurd h (by decide), fun h5 h10 h15 h20 h25 h28 => ((fun w => Below.refl _ w) W)⟩ _ rfl rfl
          first | rfl | go_simp | simp
        · -- 9: Op.load 37 (Operand.tmp 16)
          intro l hl vs W dn e1 e2 e3 hS hR hp
          have f5 : dn 5 = dn 5 := rfl
          have f10 : dn 10 = false := e3 10 (by kernel_rfl)
          have f15 : dn 15 = false := e3 15 (by kernel_rfl)
          have f20 : dn 20 = false := e3 20 (by kernel_rfl)
          have f25 : dn 25 = false := e3 25 (by kernel_rfl)
          have f28 : dn 28 = false := e3 28 (by kernel_rfl)
          replace hS : (fun W => (dn 28) = false → Rst bi b W (pick5 (dn 5) (dn 10) (dn 15) (dn 20) (dn 25) o0 o1 o2 o3 o4 o5) ∧ W.ownsRow B 86 5 u3 k xs ∧ B ≤ W.heap.size) W := hS
          rw [f10, f15, f20, f25, f28] at hS
          have g5 : (dn 5 || ((9 : Nat) == 5)) = dn 5 := Bool.or_false _
          have g10 : (dn 10 || ((9 : Nat) == 10)) = false := by rw [f10]; rfl
          have g15 : (dn 15 || ((9 : Nat) == 15)) = false := by rw [f15]; rfl
          have g20 : (dn 20 || ((9 : Nat) == 20)) = false := by rw [f20]; rfl
          have g25 : (dn 25 || ((9 : Nat) == 25)) = false := by rw [f25]; rfl
          have g28 : (dn 28 || ((9 : Nat) == 28)) = false := by rw [f28]; rfl
          refine OpGoal.imp (S1 := fun W => false = false → Rst bi b W (pick5 (dn 5) false false false false o0 o1 o2 o3 o4 o5) ∧ W.ownsRow B 86 5 u3 k xs ∧ B ≤ W.heap.size) (fun W' h => ?_) ?_
          · show (fun W => (dn 28 || ((9 : Nat) == 28)) = false → Rst bi b W (pick5 (dn 5 || ((9 : Nat) == 5)) (dn 10 || ((9 : Nat) == 10)) (dn 15 || ((9 : Nat) == 15)) (dn 20 || ((9 : Nat) == 20)) (dn 25 || ((9 : Nat) == 25)) o0 o1 o2 o3 o4 o5) ∧ W.ownsRow B 86 5 u3 k xs ∧ B ≤ W.heap.size) W'
            rw [g5, g10, g15, g20, g25, g28]
            exact h
          clear g5 g10 g15 g20 g25 g28 e1 e2 e3
          obtain rfl : l = [(6, 14), (7, 15), (8, 16)] := hl.symm.trans (by kernel_rfl)
          have p8 : vs 8 = _ := hp 8 (by decide) (by decide)
          clear hp hl
          refine opgoal (_) (some 17) rfl rfl fun K hK => ?_
          have hi0 := hI.out W hR
          refine Runs.mk ?_
          simp only [putAll]
          go_simp
          refine hK _ _ ?_ hS ⟨fun h => absurd h (by decide), fun h => absurd h (by decide), fun h => absurd h (by decide), fun h => absurd h (by decide), fun h => absurd h (by decide), fun h => absurd h (by decide), fun h5 h10 h15 h20 h25 h28 => ((fun w => Below.refl _ w) W)⟩ _ rfl rfl
          first | rfl | go_simp | simp
        · -- 10: Op.call { callee := Callee.value (Operand.func 85), args := #[Operand.tmp 17], argTypes := #[37] }
          intro l hl vs W dn e1 e2 e3 hS hR hp
          have f5 : dn 5 = true := e2 5 (by kernel_rfl)
          have f10 : dn 10 = false := e1
          have f15 : dn 15 = false := e3 15 (by kernel_rfl)
          have f20 : dn 20 = false := e3 20 (by kernel_rfl)
          have f25 : dn 25 = false := e3 25 (by kernel_rfl)
          have f28 : dn 28 = false := e3 28 (by kernel_rfl)
          replace hS : (fun W => (dn 28) = false → Rst bi b W (pick5 (dn 5) (dn 10) (dn 15) (dn 20) (dn 25) o0 o1 o2 o3 o4 o5) ∧ W.ownsRow B 86 5 u3 k xs ∧ B ≤ W.heap.size) W := hS
          rw [f5, f10, f15, f20, f25, f28] at hS
          have g5 : (dn 5 || ((10 : Nat) == 5)) = true := by rw [f5]; rfl
          have g10 : (dn 10 || ((10 : Nat) == 10)) = true := by rw [f10]; rfl
          have g15 : (dn 15 || ((10 : Nat) == 15)) = false := by rw [f15]; rfl
          have g20 : (dn 20 || ((10 : Nat) == 20)) = false := by rw [f20]; rfl
          have g25 : (dn 25 || ((10 : Nat) == 25)) = false := by rw [f25]; rfl
          have g28 : (dn 28 || ((10 : Nat) == 28)) = false := by rw [f28]; rfl
          refine OpGoal.imp (S1 := fun W => false = false → Rst bi b W (pick5 true true false false false o0 o1 o2 o3 o4 o5) ∧ W.ownsRow B 86 5 u3 k xs ∧ B ≤ W.heap.size) (fun W' h => ?_) ?_
          · show (fun W => (dn 28 || ((10 : Nat) == 28)) = false → Rst bi b W (pick5 (dn 5 || ((10 : Nat) == 5)) (dn 10 || ((10 : Nat) == 10)) (dn 15 || ((10 : Nat) == 15)) (dn 20 || ((10 : Nat) == 20)) (dn 25 || ((10 : Nat) == 25)) o0 o1 o2 o3 o4 o5) ∧ W.ownsRow B 86 5 u3 k xs ∧ B ≤ W.heap.size) W'
            rw [g5, g10, g15, g20, g25, g28]
            exact h
          clear g5 g10 g15 g20 g25 g28 e1 e2 e3
          obtain rfl : l = [(1, 9), (2, 10), (3, 11), (4, 12), (5, 13), (6, 14), (7, 15), (8, 16), (9, 17)] := hl.symm.trans (by kernel_rfl)
          have p9 : vs 9 = _ := hp 9 (by decide) (by decide)
          clear hp hl
          refine opgoal (_) (some 18) rfl rfl fun K hK => ?_
          refine Runs.mk ?_
          simp only [putAll]
          go_simp
          refine (num_read b o1.1 o1.2 W (hS rfl).1.rd hz1.out).mono ?_
          rintro e w' ⟨he, hr, hk⟩
          rw [hn2.out] at he
          subst he
          rw [hs2.out, hq2.out] at hr
          go_simp
          exact hK _ _ rfl (fun _ => ⟨(hS rfl).1.step hr hk, own_keep (hS rfl).2.1 hk (fun j hj => by have := hnb.out j hj; simpa using this), Nat.le_trans (hS rfl).2.2 hk.size⟩) ⟨fun h => absurd h (by decide), fun _ => hk, fun h => absurd h (by decide), fun h => absurd h (by decide), fun h => absurd h (by decide), fun h => absurd h (by decide), fun h5 h10 h15 h20 h25 h28 => absurd rfl h10⟩ _ rfl rfl
        · -- 11: Op.move (Operand.tmp 0)
          intro l hl vs W dn e1 e2 e3 hS hR hp
          have f5 : dn 5 = dn 5 := rfl
          have f10 : dn 10 = dn 10 := rfl
          have f15 : dn 15 = false := e3 15 (by kernel_rfl)
          have f20 : dn 20 = false := e3 20 (by kernel_rfl)
          have f25 : dn 25 = false := e3 25 (by kernel_rfl)
          have f28 : dn 28 = false := e3 28 (by kernel_rfl)
          replace hS : (fun W => (dn 28) = false → Rst bi b W (pick5 (dn 5) (dn 10) (dn 15) (dn 20) (dn 25) o0 o1 o2 o3 o4 o5) ∧ W.ownsRow B 86 5 u3 k xs ∧ B ≤ W.heap.size) W := hS
          rw [f15, f20, f25, f28] at hS
          have g5 : (dn 5 || ((11 : Nat) == 5)) = dn 5 := Bool.or_false _
          have g10 : (dn 10 || ((11 : Nat) == 10)) = dn 10 := Bool.or_false _
          have g15 : (dn 15 || ((11 : Nat) == 15)) = false := by rw [f15]; rfl
          have g20 : (dn 20 || ((11 : Nat) == 20)) = false := by rw [f20]; rfl
          have g25 : (dn 25 || ((11 : Nat) == 25)) = false := by rw [f25]; rfl
          have g28 : (dn 28 || ((11 : Nat) == 28)) = false := by rw [f28]; rfl
          refine OpGoal.imp (S1 := fun W => false = false → Rst bi b W (pick5 (dn 5) (dn 10) false false false o0 o1 o2 o3 o4 o5) ∧ W.ownsRow B 86 5 u3 k xs ∧ B ≤ W.heap.size) (fun W' h => ?_) ?_
          · show (fun W => (dn 28 || ((11 : Nat) == 28)) = false → Rst bi b W (pick5 (dn 5 || ((11 : Nat) == 5)) (dn 10 || ((11 : Nat) == 10)) (dn 15 || ((11 : Nat) == 15)) (dn 20 || ((11 : Nat) == 20)) (dn 25 || ((11 : Nat) == 25)) o0 o1 o2 o3 o4 o5) ∧ W.ownsRow B 86 5 u3 k xs ∧ B ≤ W.heap.size) W'
            rw [g5, g10, g15, g20, g25, g28]
            exact h
          clear g5 g10 g15 g20 g25 g28 e1 e2 e3
          obtain rfl : l = [] := hl.symm.trans (by kernel_rfl)
          clear hp hl
          refine opgoal (_) (some 19) rfl rfl fun K hK => ?_
          refine Runs.mk ?_
          simp only [putAll]
          go_simp
          refine hK _ _ ?_ hS ⟨fun h => absurd h (by decide), fun h => absurd h (by decide), fun h => absurd h (by decide), fun h => absurd h (by decide), fun h => absurd h (by decide), fun h => absurd h (by decide), fun h5 h10 h15 h20 h25 h28 => ((fun w => Below.refl _ w) W)⟩ _ rfl rfl
          first | rfl | go_simp | simp
        · -- 12: Op.nilCheck (Operand.tmp 19)
          intro l hl vs W dn e1 e2 e3 hS hR hp
          have f5 : dn 5 = dn 5 := rfl
          have f10 : dn 10 = dn 10 := rfl
          have f15 : dn 15 = false := e3 15 (by kernel_rfl)
          have f20 : dn 20 = false := e3 20 (by kernel_rfl)
          have f25 : dn 25 = false := e3 25 (by kernel_rfl)
          have f28 : dn 28 = false := e3 28 (by kernel_rfl)
          replace hS : (fun W => (dn 28) = false → Rst bi b W (pick5 (dn 5) (dn 10) (dn 15) (dn 20) (dn 25) o0 o1 o2 o3 o4 o5) ∧ W.ownsRow B 86 5 u3 k xs ∧ B ≤ W.heap.size) W := hS
          rw [f15, f20, f25, f28] at hS
          have g5 : (dn 5 || ((12 : Nat) == 5)) = dn 5 := Bool.or_false _
          have g10 : (dn 10 || ((12 : Nat) == 10)) = dn 10 := Bool.or_false _
          have g15 : (dn 15 || ((12 : Nat) == 15)) = false := by rw [f15]; rfl
          have g20 : (dn 20 || ((12 : Nat) == 20)) = false := by rw [f20]; rfl
          have g25 : (dn 25 || ((12 : Nat) == 25)) = false := by rw [f25]; rfl
          have g28 : (dn 28 || ((12 : Nat) == 28)) = false := by rw [f28]; rfl
          refine OpGoal.imp (S1 := fun W => false = false → Rst bi b W (pick5 (dn 5) (dn 10) false false false o0 o1 o2 o3 o4 o5) ∧ W.ownsRow B 86 5 u3 k xs ∧ B ≤ W.heap.size) (fun W' h => ?_) ?_
          · show (fun W => (dn 28 || ((12 : Nat) == 28)) = false → Rst bi b W (pick5 (dn 5 || ((12 : Nat) == 5)) (dn 10 || ((12 : Nat) == 10)) (dn 15 || ((12 : Nat) == 15)) (dn 20 || ((12 : Nat) == 20)) (dn 25 || ((12 : Nat) == 25)) o0 o1 o2 o3 o4 o5) ∧ W.ownsRow B 86 5 u3 k xs ∧ B ≤ W.heap.size) W'
            rw [g5, g10, g15, g20, g25, g28]
            exact h
          clear g5 g10 g15 g20 g25 g28 e1 e2 e3
          obtain rfl : l = [(11, 19)] := hl.symm.trans (by kernel_rfl)
          have p11 : vs 11 = _ := hp 11 (by decide) (by decide)
          clear hp hl
          refine opgoal (_) (some 20) rfl rfl fun K hK => ?_
          refine Runs.mk ?_
          simp only [putAll]
          go_simp
          refine hK _ _ ?_ hS ⟨fun h => absurd h (by decide), fun h => absurd h (by decide), fun h => absurd h (by decide), fun h => absurd h (by decide), fun h => absurd h (by decide), fun h => absurd h (by decide), fun h5 h10 h15 h20 h25 h28 => ((fun w => Below.refl _ w) W)⟩ _ rfl rfl
          first | rfl | go_simp | simp
        · -- 13: Op.fieldAddr 78 (Operand.tmp 20) 0
          intro l hl vs W dn e1 e2 e3 hS hR hp
          have f5 : dn 5 = dn 5 := rfl
          have f10 : dn 10 = dn 10 := rfl
          have f15 : dn 15 = false := e3 15 (by kernel_rfl)
          have f20 : dn 20 = false := e3 20 (by kernel_rfl)
          have f25 : dn 25 = false := e3 25 (by kernel_rfl)
          have f28 : dn 28 = false := e3 28 (by kernel_rfl)
          replace hS : (fun W => (dn 28) = false → Rst bi b W (pick5 (dn 5) (dn 10) (dn 15) (dn 20) (dn 25) o0 o1 o2 o3 o4 o5) ∧ W.ownsRow B 86 5 u3 k xs ∧ B ≤ W.heap.size) W := hS
          rw [f15, f20, f25, f28] at hS
          have g5 : (dn 5 || ((13 : Nat) == 5)) = dn 5 := Bool.or_false _
          have g10 : (dn 10 || ((13 : Nat) == 10)) = dn 10 := Bool.or_false _
          have g15 : (dn 15 || ((13 : Nat) == 15)) = false := by rw [f15]; rfl
          have g20 : (dn 20 || ((13 : Nat) == 20)) = false := by rw [f20]; rfl
          have g25 : (dn 25 || ((13 : Nat) == 25)) = false := by rw [f25]; rfl
          have g28 : (dn 28 || ((13 : Nat) == 28)) = false := by rw [f28]; rfl
          refine OpGoal.imp (S1 := fun W => false = false → Rst bi b W (pick5 (dn 5) (dn 10) false false false o0 o1 o2 o3 o4 o5) ∧ W.ownsRow B 86 5 u3 k xs ∧ B ≤ W.heap.size) (fun W' h => ?_) ?_
          · show (fun W => (dn 28 || ((13 : Nat) == 28)) = false → Rst bi b W (pick5 (dn 5 || ((13 : Nat) == 5)) (dn 10 || ((13 : Nat) == 10)) (dn 15 || ((13 : Nat) == 15)) (dn 20 || ((13 : Nat) == 20)) (dn 25 || ((13 : Nat) == 25)) o0 o1 o2 o3 o4 o5) ∧ W.ownsRow B 86 5 u3 k xs ∧ B ≤ W.heap.size) W'
            rw [g5, g10, g15, g20, g25, g28]
            exact h
          clear g5 g10 g15 g20 g25 g28 e1 e2 e3
          obtain rfl : l = [(11, 19), (12, 20)] := hl.symm.trans (by kernel_rfl)
          have p12 : vs 12 = _ := hp 12 (by decide) (by decide)
          clear hp hl
          refine opgoal (_) (some 21) rfl rfl fun K hK => ?_
          refine Runs.mk ?_
          simp only [putAll]
          go_simp
          refine hK _ _ ?_ hS ⟨fun h => absurd h (by decide), fun h => absurd h (by decide), fun h => absurd h (by decide), fun h => absurd h (by decide), fun h => absurd h (by decide), fun h => absurd h (by decide), fun h5 h10 h15 h20 h25 h28 => ((fun w => Below.refl _ w) W)⟩ _ rfl rfl
          first | rfl | go_simp | simp
        · -- 14: Op.load 37 (Operand.tmp 21)
          intro l hl vs W dn e1 e2 e3 hS hR hp
          have f5 : dn 5 = dn 5 := rfl
          have f10 : dn 10 = dn 10 := rfl
          have f15 : dn 15 = false := e3 15 (by kernel_rfl)
          have f20 : dn 20 = false := e3 20 (by kernel_rfl)
          have f25 : dn 25 = false := e3 25 (by kernel_rfl)
          have f28 : dn 28 = false := e3 28 (by kernel_rfl)
          replace hS : (fun W => (dn 28) = false → Rst bi b W (pick5 (dn 5) (dn 10) (dn 15) (dn 20) (dn 25) o0 o1 o2 o3 o4 o5) ∧ W.ownsRow B 86 5 u3 k xs ∧ B ≤ W.heap.size) W := hS
          rw [f15, f20, f25, f28] at hS
          have g5 : (dn 5 || ((14 : Nat) == 5)) = dn 5 := Bool.or_false _
          have g10 : (dn 10 || ((14 : Nat) == 10)) = dn 10 := Bool.or_false _
          have g15 : (dn 15 || ((14 : Nat) == 15)) = false := by rw [f15]; rfl
          have g20 : (dn 20 || ((14 : Nat) == 20)) = false := by rw [f20]; rfl
          have g25 : (dn 25 || ((14 : Nat) == 25)) = false := by rw [f25]; rfl
          have g28 : (dn 28 || ((14 : Nat) == 28)) = false := by rw [f28]; rfl
          refine OpGoal.imp (S1 := fun W => false = false → Rst bi b W (pick5 (dn 5) (dn 10) false false false o0 o1 o2 o3 o4 o5) ∧ W.ownsRow B 86 5 u3 k xs ∧ B ≤ W.heap.size) (fun W' h => ?_) ?_
          · show (fun W => (dn 28 || ((14 : Nat) == 28)) = false → Rst bi b W (pick5 (dn 5 || ((14 : Nat) == 5)) (dn 10 || ((14 : Nat) == 10)) (dn 15 || ((14 : Nat) == 15)) (dn 20 || ((14 : Nat) == 20)) (dn 25 || ((14 : Nat) == 25)) o0 o1 o2 o3 o4 o5) ∧ W.ownsRow B 86 5 u3 k xs ∧ B ≤ W.heap.size) W'
            rw [g5, g10, g15, g20, g25, g28]
            exact h
          clear g5 g10 g15 g20 g25 g28 e1 e2 e3
          obtain rfl : l = [(11, 19), (12, 20), (13, 21)] := hl.symm.trans (by kernel_rfl)
          have p13 : vs 13 = _ := hp 13 (by decide) (by decide)
          clear hp hl
          refine opgoal (_) (some 22) rfl rfl fun K hK => ?_
          have hi0 := hI.out W hR
          refine Runs.mk ?_
          simp only [putAll]
          go_simp
          refine hK _ _ ?_ hS ⟨fun h => absurd h (by decide), fun h => absurd h (by decide), fun h => absurd h (by decide), fun h => absurd h (by decide), fun h => absurd h (by decide), fun h => absurd h (by decide), fun h5 h10 h15 h20 h25 h28 => ((fun w => Below.refl _ w) W)⟩ _ rfl rfl
          first | rfl | go_simp | simp
        · -- 15: Op.call { callee := Callee.value (Operand.func 85), args := #[Operand.tmp 22], argTypes := #[37] }
          intro l hl vs W dn e1 e2 e3 hS hR hp
          have f5 : dn 5 = true := e2 5 (by kernel_rfl)
          have f10 : dn 10 = true := e2 10 (by kernel_rfl)
          have f15 : dn 15 = false := e1
          have f20 : dn 20 = false := e3 20 (by kernel_rfl)
          have f25 : dn 25 = false := e3 25 (by kernel_rfl)
          have f28 : dn 28 = false := e3 28 (by kernel_rfl)
          replace hS : (fun W => (dn 28) = false → Rst bi b W (pick5 (dn 5) (dn 10) (dn 15) (dn 20) (dn 25) o0 o1 o2 o3 o4 o5) ∧ W.ownsRow B 86 5 u3 k xs ∧ B ≤ W.heap.size) W := hS
          rw [f5, f10, f15, f20, f25, f28] at hS
          have g5 : (dn 5 || ((15 : Nat) == 5)) = true := by rw [f5]; rfl
          have g10 : (dn 10 || ((15 : Nat) == 10)) = true := by rw [f10]; rfl
          have g15 : (dn 15 || ((15 : Nat) == 15)) = true := by rw [f15]; rfl
          have g20 : (dn 20 || ((15 : Nat) == 20)) = false := by rw [f20]; rfl
          have g25 : (dn 25 || ((15 : Nat) == 25)) = false := by rw [f25]; rfl
          have g28 : (dn 28 || ((15 : Nat) == 28)) = false := by rw [f28]; rfl
          refine OpGoal.imp (S1 := fun W => false = false → Rst bi b W (pick5 true true true false false o0 o1 o2 o3 o4 o5) ∧ W.ownsRow B 86 5 u3 k xs ∧ B ≤ W.heap.size) (fun W' h => ?_) ?_
          · show (fun W => (dn 28 || ((15 : Nat) == 28)) = false → Rst bi b W (pick5 (dn 5 || ((15 : Nat) == 5)) (dn 10 || ((15 : Nat) == 10)) (dn 15 || ((15 : Nat) == 15)) (dn 20 || ((15 : Nat) == 20)) (dn 25 || ((15 : Nat) == 25)) o0 o1 o2 o3 o4 o5) ∧ W.ownsRow B 86 5 u3 k xs ∧ B ≤ W.heap.size) W'
            rw [g5, g10, g15, g20, g25, g28]
            exact h
          clear g5 g10 g15 g20 g25 g28 e1 e2 e3
          obtain rfl : l = [(1, 9), (2, 10), (3, 11), (4, 12), (5, 13), (6, 14), (7, 15), (8, 16), (9, 17), (10, 18), (11, 19), (12, 20), (13, 21), (14, 22)] := hl.symm.trans (by kernel_rfl)
          have p14 : vs 14 = _ := hp 14 (by decide) (by decide)
          clear hp hl
          refine opgoal (_) (some 23) rfl rfl fun K hK => ?_
          refine Runs.mk ?_
          simp only [putAll]
          go_simp
          refine (num_read b o2.1 o2.2 W (hS rfl).1.rd hz2.out).mono ?_
          rintro e w' ⟨he, hr, hk⟩
          rw [hn3.out] at he
          subst he
          rw [hs3.out, hq3.out] at hr
          go_simp
          exact hK _ _ rfl (fun _ => ⟨(hS rfl).1.step hr hk, own_keep (hS rfl).2.1 hk (fun j hj => by have := hnb.out j hj; simpa using this), Nat.le_trans (hS rfl).2.2 hk.size⟩) ⟨fun h => absurd h (by decide), fun h => absurd h (by decide), fun _ => hk, fun h => absurd h (by decide), fun h => absurd h (by decide), fun h => absurd h (by decide), fun h5 h10 h15 h20 h25 h28 => absurd rfl h15⟩ _ rfl rfl
        · -- 16: Op.move (Operand.tmp 0)
          intro l hl vs W dn e1 e2 e3 hS hR hp
          have f5 : dn 5 = dn 5 := rfl
          have f10 : dn 10 = dn 10 := rfl
          have f15 : dn 15 = dn 15 := rfl
          have f20 : dn 20 = false := e3 20 (by kernel_rfl)
          have f25 : dn 25 = false := e3 25 (by kernel_rfl)
          have f28 : dn 28 = false := e3 28 (by kernel_rfl)
          replace hS : (fun W => (dn 28) = false → Rst bi b W (pick5 (dn 5) (dn 10) (dn 15) (dn 20) (dn 25) o0 o1 o2 o3 o4 o5) ∧ W.ownsRow B 86 5 u3 k xs ∧ B ≤ W.heap.size) W := hS
          rw [f20, f25, f28] at hS
          have g5 : (dn 5 || ((16 : Nat) == 5)) = dn 5 := Bool.or_false _
          have g10 : (dn 10 || ((16 : Nat) == 10)) = dn 10 := Bool.or_false _
          have g15 : (dn 15 || ((16 : Nat) == 15)) = dn 15 := Bool.or_false _
          have g20 : (dn 20 || ((16 : Nat) == 20)) = false := by rw [f20]; rfl
          have g25 : (dn 25 || ((16 : Nat) == 25)) = false := by rw [f25]; rfl
          have g28 : (dn 28 || ((16 : Nat) == 28)) = false := by rw [f28]; rfl
          refine OpGoal.imp (S1 := fun W => false = false → Rst bi b W (pick5 (dn 5) (dn 10) (dn 15) false false o0 o1 o2 o3 o4 o5) ∧ W.ownsRow B 86 5 u3 k xs ∧ B ≤ W.heap.size) (fun W' h => ?_) ?_
          · show (fun W => (dn 28 || ((16 : Nat) == 28)) = false → Rst bi b W (pick5 (dn 5 || ((16 : Nat) == 5)) (dn 10 || ((16 : Nat) == 10)) (dn 15 || ((16 : Nat) == 15)) (dn 20 || ((16 : Nat) == 20)) (dn 25 || ((16 : Nat) == 25)) o0 o1 o2 o3 o4 o5) ∧ W.ownsRow B 86 5 u3 k xs ∧ B ≤ W.heap.size) W'
            rw [g5, g10, g15, g20, g25, g28]
            exact h
          clear g5 g10 g15 g20 g25 g28 e1 e2 e3
          obtain rfl : l = [] := hl.symm.trans (by kernel_rfl)
          clear hp hl
          refine opgoal (_) (some 24) rfl rfl fun K hK => ?_
          refine Runs.mk ?_
          simp only [putAll]
          go_simp
          refine hK _ _ ?_ hS ⟨fun h => absurd h (by decide), fun h => absurd h (by decide), fun h => absurd h (by decide), fun h => absurd h (by decide), fun h => absurd h (by decide), fun h => absurd h (by decide), fun h5 h10 h15 h20 h25 h28 => ((fun w => Below.refl _ w) W)⟩ _ rfl rfl
          first | rfl | go_simp | simp
        · -- 17: Op.nilCheck (Operand.tmp 24)
          intro l hl vs W dn e1 e2 e3 hS hR hp
          have f5 : dn 5 = dn 5 := rfl
          have f10 : dn 10 = dn 10 := rfl
          have f15 : dn 15 = dn 15 := rfl
          have f20 : dn 20 = false := e3 20 (by kernel_rfl)
          have f25 : dn 25 = false := e3 25 (by kernel_rfl)
          have f28 : dn 28 = false := e3 28 (by kernel_rfl)
          replace hS : (fun W => (dn 28) = false → Rst bi b W (pick5 (dn 5) (dn 10) (dn 15) (dn 20) (dn 25) o0 o1 o2 o3 o4 o5) ∧ W.ownsRow B 86 5 u3 k xs ∧ B ≤ W.heap.size) W := hS
          rw [f20, f25, f28] at hS
          have g5 : (dn 5 || ((17 : Nat) == 5)) = dn 5 := Bool.or_false _
          have g10 : (dn 10 || ((17 : Nat) == 10)) = dn 10 := Bool.or_false _
          have g15 : (dn 15 || ((17 : Nat) == 15)) = dn 15 := Bool.or_false _
          have g20 : (dn 20 || ((17 : Nat) == 20)) = false := by rw [f20]; rfl
          have g25 : (dn 25 || ((17 : Nat) == 25)) = false := by rw [f25]; rfl
          have g28 : (dn 28 || ((17 : Nat) == 28)) = false := by rw [f28]; rfl
          refine OpGoal.imp (S1 := fun W => false = false → Rst bi b W (pick5 (dn 5) (dn 10) (dn 15) false false o0 o1 o2 o3 o4 o5) ∧ W.ownsRow B 86 5 u3 k xs ∧ B ≤ W.heap.size) (fun W' h => ?_) ?_
          · show (fun W => (dn 28 || ((17 : Nat) == 28)) = false → Rst bi b W (pick5 (dn 5 || ((17 : Nat) == 5)) (dn 10 || ((17 : Nat) == 10)) (dn 15 || ((17 : Nat) == 15)) (dn 20 || ((17 : Nat) == 20)) (dn 25 || ((17 : Nat) == 25)) o0 o1 o2 o3 o4 o5) ∧ W.ownsRow B 86 5 u3 k xs ∧ B ≤ W.heap.size) W'
            rw [g5, g10, g15, g20, g25, g28]
            exact h
          clear g5 g10 g15 g20 g25 g28 e1 e2 e3
          obtain rfl : l = [(16, 24)] := hl.symm.trans (by kernel_rfl)
          have p16 : vs 16 = _ := hp 16 (by decide) (by decide)
          clear hp hl
          refine opgoal (_) (some 25) rfl rfl fun K hK => ?_
          refine Runs.mk ?_
          simp only [putAll]
          go_simp
          refine hK _ _ ?_ hS ⟨fun h => absurd h (by decide), fun h => absurd h (by decide), fun h => absurd h (by decide), fun h => absurd h (by decide), fun h => absurd h (by decide), fun h => absurd h (by decide), fun h5 h10 h15 h20 h25 h28 => ((fun w => Below.refl _ w) W)⟩ _ rfl rfl
          first | rfl | go_simp | simp
        · -- 18: Op.fieldAddr 78 (Operand.tmp 25) 0
          intro l hl vs W dn e1 e2 e3 hS hR hp
          have f5 : dn 5 = dn 5 := rfl
          have f10 : dn 10 = dn 10 := rfl
          have f15 : dn 15 = dn 15 := rfl
          have f20 : dn 20 = false := e3 20 (by kernel_rfl)
          have f25 : dn 25 = false := e3 25 (by kernel_rfl)
          have f28 : dn 28 = false := e3 28 (by kernel_rfl)
          replace hS : (fun W => (dn 28) = false → Rst bi b W (pick5 (dn 5) (dn 10) (dn 15) (dn 20) (dn 25) o0 o1 o2 o3 o4 o5) ∧ W.ownsRow B 86 5 u3 k xs ∧ B ≤ W.heap.size) W := hS
          rw [f20, f25, f28] at hS
          have g5 : (dn 5 || ((18 : Nat) == 5)) = dn 5 := Bool.or_false _
          have g10 : (dn 10 || ((18 : Nat) == 10)) = dn 10 := Bool.or_false _
          have g15 : (dn 15 || ((18 : Nat) == 15)) = dn 15 := Bool.or_false _
          have g20 : (dn 20 || ((18 : Nat) == 20)) = false := by rw [f20]; rfl
          have g25 : (dn 25 || ((18 : Nat) == 25)) = false := by rw [f25]; rfl
          have g28 : (dn 28 || ((18 : Nat) == 28)) = false := by rw [f28]; rfl
          refine OpGoal.imp (S1 := fun W => false = false → Rst bi b W (pick5 (dn 5) (dn 10) (dn 15) false false o0 o1 o2 o3 o4 o5) ∧ W.ownsRow B 86 5 u3 k xs ∧ B ≤ W.heap.size) (fun W' h => ?_) ?_
          · show (fun W => (dn 28 || ((18 : Nat) == 28)) = false → Rst bi b W (pick5 (dn 5 || ((18 : Nat) == 5)) (dn 10 || ((18 : Nat) == 10)) (dn 15 || ((18 : Nat) == 15)) (dn 20 || ((18 : Nat) == 20)) (dn 25 || ((18 : Nat) == 25)) o0 o1 o2 o3 o4 o5) ∧ W.ownsRow B 86 5 u3 k xs ∧ B ≤ W.heap.size) W'
            rw [g5, g10, g15, g20, g25, g28]
            exact h
          clear g5 g10 g15 g20 g25 g28 e1 e2 e3
          obtain rfl : l = [(16, 24), (17, 25)] := hl.symm.trans (by kernel_rfl)
          have p17 : vs 17 = _ := hp 17 (by decide) (by decide)
          clear hp hl
          refine opgoal (_) (some 26) rfl rfl fun K hK => ?_
          refine Runs.mk ?_
          simp only [putAll]
          go_simp
          refine hK _ _ ?_ hS ⟨fun h => absurd h (by decide), fun h => absurd h (by decide), fun h => absurd h (by decide), fun h => absurd h (by decide), fun h => absurd h (by decide), fun h => absurd h (by decide), fun h5 h10 h15 h20 h25 h28 => ((fun w => Below.refl _ w) W)⟩ _ rfl rfl
          first | rfl | go_simp | simp
        · -- 19: Op.load 37 (Operand.tmp 26)
          intro l hl vs W dn e1 e2 e3 hS hR hp
          have f5 : dn 5 = dn 5 := rfl
          have f10 : dn 10 = dn 10 := rfl
          have f15 : dn 15 = dn 15 := rfl
          have f20 : dn 20 = false := e3 20 (by kernel_rfl)
          have f25 : dn 25 = false := e3 25 (by kernel_rfl)
          have f28 : dn 28 = false := e3 28 (by kernel_rfl)
          replace hS : (fun W => (dn 28) = false → Rst bi b W (pick5 (dn 5) (dn 10) (dn 15) (dn 20) (dn 25) o0 o1 o2 o3 o4 o5) ∧ W.ownsRow B 86 5 u3 k xs ∧ B ≤ W.heap.size) W := hS
          rw [f20, f25, f28] at hS
          have g5 : (dn 5 || ((19 : Nat) == 5)) = dn 5 := Bool.or_false _
          have g10 : (dn 10 || ((19 : Nat) == 10)) = dn 10 := Bool.or_false _
          have g15 : (dn 15 || ((19 : Nat) == 15)) = dn 15 := Bool.or_false _
          have g20 : (dn 20 || ((19 : Nat) == 20)) = false := by rw [f20]; rfl
          have g25 : (dn 25 || ((19 : Nat) == 25)) = false := by rw [f25]; rfl
          have g28 : (dn 28 || ((19 : Nat) == 28)) = false := by rw [f28]; rfl
          refine OpGoal.imp (S1 := fun W => false = false → Rst bi b W (pick5 (dn 5) (dn 10) (dn 15) false false o0 o1 o2 o3 o4 o5) ∧ W.ownsRow B 86 5 u3 k xs ∧ B ≤ W.heap.size) (fun W' h => ?_) ?_
          · show (fun W => (dn 28 || ((19 : Nat) == 28)) = false → Rst bi b W (pick5 (dn 5 || ((19 : Nat) == 5)) (dn 10 || ((19 : Nat) == 10)) (dn 15 || ((19 : Nat) == 15)) (dn 20 || ((19 : Nat) == 20)) (dn 25 || ((19 : Nat) == 25)) o0 o1 o2 o3 o4 o5) ∧ W.ownsRow B 86 5 u3 k xs ∧ B ≤ W.heap.size) W'
            rw [g5, g10, g15, g20, g25, g28]
            exact h
          clear g5 g10 g15 g20 g25 g28 e1 e2 e3
          obtain rfl : l = [(16, 24), (17, 25), (18, 26)] := hl.symm.trans (by kernel_rfl)
          have p18 : vs 18 = _ := hp 18 (by decide) (by decide)
          clear hp hl
          refine opgoal (_) (some 27) rfl rfl fun K hK => ?_
          have hi0 := hI.out W hR
          refine Runs.mk ?_
          simp only [putAll]
          go_simp
          refine hK _ _ ?_ hS ⟨fun h => absurd h (by decide), fun h => absurd h (by decide), fun h => absurd h (by decide), fun h => absurd h (by decide), fun h => absurd h (by decide), fun h => absurd h (by decide), fun h5 h10 h15 h20 h25 h28 => ((fun w => Below.refl _ w) W)⟩ _ rfl rfl
          first | rfl | go_simp | simp
        · -- 20: Op.call { callee := Callee.value (Operand.func 83), args := #[Operand.tmp 27], argTypes := #[37] }
          intro l hl vs W dn e1 e2 e3 hS hR hp
          have f5 : dn 5 = true := e2 5 (by kernel_rfl)
          have f10 : dn 10 = true := e2 10 (by kernel_rfl)
          have f15 : dn 15 = true := e2 15 (by kernel_rfl)
          have f20 : dn 20 = false := e1
          have f25 : dn 25 = false := e3 25 (by kernel_rfl)
          have f28 : dn 28 = false := e3 28 (by kernel_rfl)
          replace hS : (fun W => (dn 28) = false → Rst bi b W (pick5 (dn 5) (dn 10) (dn 15) (dn 20) (dn 25) o0 o1 o2 o3 o4 o5) ∧ W.ownsRow B 86 5 u3 k xs ∧ B ≤ W.heap.size) W := hS
          rw [f5, f10, f15, f20, f25, f28] at hS
          have g5 : (dn 5 || ((20 : Nat) == 5)) = true := by rw [f5]; rfl
          have g10 : (dn 10 || ((20 : Nat) == 10)) = true := by rw [f10]; rfl
          have g15 : (dn 15 || ((20 : Nat) == 15)) = true := by rw [f15]; rfl
          have g20 : (dn 20 || ((20 : Nat) == 20)) = true := by rw [f20]; rfl
          have g25 : (dn 25 || ((20 : Nat) == 25)) = false := by rw [f25]; rfl
          have g28 : (dn 28 || ((20 : Nat) == 28)) = false := by rw [f28]; rfl
          refine OpGoal.imp (S1 := fun W => false = false → Rst bi b W (pick5 true true true true false o0 o1 o2 o3 o4 o5) ∧ W.ownsRow B 86 5 u3 k xs ∧ B ≤ W.heap.size) (fun W' h => ?_) ?_
          · show (fun W => (dn 28 || ((20 : Nat) == 28)) = false → Rst bi b W (pick5 (dn 5 || ((20 : Nat) == 5)) (dn 10 || ((20 : Nat) == 10)) (dn 15 || ((20 : Nat) == 15)) (dn 20 || ((20 : Nat) == 20)) (dn 25 || ((20 : Nat) == 25)) o0 o1 o2 o3 o4 o5) ∧ W.ownsRow B 86 5 u3 k xs ∧ B ≤ W.heap.size) W'
            rw [g5, g10, g15, g20, g25, g28]
            exact h
          clear g5 g10 g15 g20 g25 g28 e1 e2 e3
          obtain rfl : l = [(1, 9), (2, 10), (3, 11), (4, 12), (5, 13), (6, 14), (7, 15), (8, 16), (9, 17), (10, 18), (11, 19), (12, 20), (13, 21), (14, 22), (15, 23), (16, 24), (17, 25), (18, 26), (19, 27)] := hl.symm.trans (by kernel_rfl)
          have p19 : vs 19 = _ := hp 19 (by decide) (by decide)
          clear hp hl
          refine opgoal (_) (some 28) rfl rfl fun K hK => ?_
          refine Runs.mk ?_
          simp only [putAll]
          go_simp
          refine (bool_read b o3.1 o3.2 W (hS rfl).1.rd hz3.out).mono ?_
          rintro e w' ⟨he, hr, hk⟩
          rw [hn4.out] at he
          subst he
          rw [hs4.out, hq4.out] at hr
          go_simp
          exact hK _ _ rfl (fun _ => ⟨(hS rfl).1.step hr hk, own_keep (hS rfl).2.1 hk (fun j hj => by have := hnb.out j hj; simpa using this), Nat.le_trans (hS rfl).2.2 hk.size⟩) ⟨fun h => absurd h (by decide), fun h => absurd h (by decide), fun h => absurd h (by decide), fun _ => hk, fun h => absurd h (by decide), fun h => absurd h (by decide), fun h5 h10 h15 h20 h25 h28 => absurd rfl h20⟩ _ rfl rfl
        · -- 21: Op.move (Operand.tmp 0)
          intro l hl vs W dn e1 e2 e3 hS hR hp
          have f5 : dn 5 = dn 5 := rfl
          have f10 : dn 10 = dn 10 := rfl
          have f15 : dn 15 = dn 15 := rfl
          have f20 : dn 20 = dn 20 := rfl
          have f25 : dn 25 = false := e3 25 (by kernel_rfl)
          have f28 : dn 28 = false := e3 28 (by kernel_rfl)
          replace hS : (fun W => (dn 28) = false → Rst bi b W (pick5 (dn 5) (dn 10) (dn 15) (dn 20) (dn 25) o0 o1 o2 o3 o4 o5) ∧ W.ownsRow B 86 5 u3 k xs ∧ B ≤ W.heap.size) W := hS
          rw [f25, f28] at hS
          have g5 : (dn 5 || ((21 : Nat) == 5)) = dn 5 := Bool.or_false _
          have g10 : (dn 10 || ((21 : Nat) == 10)) = dn 10 := Bool.or_false _
          have g15 : (dn 15 || ((21 : Nat) == 15)) = dn 15 := Bool.or_false _
          have g20 : (dn 20 || ((21 : Nat) == 20)) = dn 20 := Bool.or_false _
          have g25 : (dn 25 || ((21 : Nat) == 25)) = false := by rw [f25]; rfl
          have g28 : (dn 28 || ((21 : Nat) == 28)) = false := by rw [f28]; rfl
          refine OpGoal.imp (S1 := fun W => false = false → Rst bi b W (pick5 (dn 5) (dn 10) (dn 15) (dn 20) false o0 o1 o2 o3 o4 o5) ∧ W.ownsRow B 86 5 u3 k xs ∧ B ≤ W.heap.size) (fun W' h => ?_) ?_
          · show (fun W => (dn 28 || ((21 : Nat) == 28)) = false → Rst bi b W (pick5 (dn 5 || ((21 : Nat) == 5)) (dn 10 || ((21 : Nat) == 10)) (dn 15 || ((21 : Nat) == 15)) (dn 20 || ((21 : Nat) == 20)) (dn 25 || ((21 : Nat) == 25)) o0 o1 o2 o3 o4 o5) ∧ W.ownsRow B 86 5 u3 k xs ∧ B ≤ W.heap.size) W'
            rw [g5, g10, g15, g20, g25, g28]
            exact h
          clear g5 g10 g15 g20 g25 g28 e1 e2 e3
          obtain rfl : l = [] := hl.symm.trans (by kernel_rfl)
          clear hp hl
          refine opgoal (_) (some 29) rfl rfl fun K hK => ?_
          refine Runs.mk ?_
          simp only [putAll]
          go_simp
          refine hK _ _ ?_ hS ⟨fun h => absurd h (by decide), fun h => absurd h (by decide), fun h => absurd h (by decide), fun h => absurd h (by decide), fun h => absurd h (by decide), fun h => absurd h (by decide), fun h5 h10 h15 h20 h25 h28 => ((fun w => Below.refl _ w) W)⟩ _ rfl rfl
          first | rfl | go_simp | simp
        · -- 22: Op.nilCheck (Operand.tmp 29)
          intro l hl vs W dn e1 e2 e3 hS hR hp
          have f5 : dn 5 = dn 5 := rfl
          have f10 : dn 10 = dn 10 := rfl
          have f15 : dn 15 = dn 15 := rfl
          have f20 : dn 20 = dn 20 := rfl
          have f25 : dn 25 = false := e3 25 (by kernel_rfl)
          have f28 : dn 28 = false := e3 28 (by kernel_rfl)
          replace hS : (fun W => (dn 28) = false → Rst bi b W (pick5 (dn 5) (dn 10) (dn 15) (dn 20) (dn 25) o0 o1 o2 o3 o4 o5) ∧ W.ownsRow B 86 5 u3 k xs ∧ B ≤ W.heap.size) W := hS
          rw [f25, f28] at hS
          have g5 : (dn 5 || ((22 : Nat) == 5)) = dn 5 := Bool.or_false _
          have g10 : (dn 10 || ((22 : Nat) == 10)) = dn 10 := Bool.or_false _
          have g15 : (dn 15 || ((22 : Nat) == 15)) = dn 15 := Bool.or_false _
          have g20 : (dn 20 || ((22 : Nat) == 20)) = dn 20 := Bool.or_false _
          have g25 : (dn 25 || ((22 : Nat) == 25)) = false := by rw [f25]; rfl
          have g28 : (dn 28 || ((22 : Nat) == 28)) = false := by rw [f28]; rfl
          refine OpGoal.imp (S1 := fun W => false = false → Rst bi b W (pick5 (dn 5) (dn 10) (dn 15) (dn 20) false o0 o1 o2 o3 o4 o5) ∧ W.ownsRow B 86 5 u3 k xs ∧ B ≤ W.heap.size) (fun W' h => ?_) ?_
          · show (fun W => (dn 28 || ((22 : Nat) == 28)) = false → Rst bi b W (pick5 (dn 5 || ((22 : Nat) == 5)) (dn 10 || ((22 : Nat) == 10)) (dn 15 || ((22 : Nat) == 15)) (dn 20 || ((22 : Nat) == 20)) (dn 25 || ((22 : Nat) == 25)) o0 o1 o2 o3 o4 o5) ∧ W.ownsRow B 86 5 u3 k xs ∧ B ≤ W.heap.size) W'
            rw [g5, g10, g15, g20, g25, g28]
            exact h
          clear g5 g10 g15 g20 g25 g28 e1 e2 e3
          obtain rfl : l = [(21, 29)] := hl.symm.trans (by kernel_rfl)
          have p21 : vs 21 = _ := hp 21 (by decide) (by decide)
          clear hp hl
          refine opgoal (_) (some 30) rfl rfl fun K hK => ?_
          refine Runs.mk ?_
          simp only [putAll]
          go_simp
          refine hK _ _ ?_ hS ⟨fun h => absurd h (by decide), fun h => absurd h (by decide), fun h => absurd h (by decide), fun h => absurd h (by decide), fun h => absurd h (by decide), fun h => absurd h (by decide), fun h5 h10 h15 h20 h25 h28 => ((fun w => Below.refl _ w) W)⟩ _ rfl rfl
          first | rfl | go_simp | simp
        · -- 23: Op.fieldAddr 78 (Operand.tmp 30) 0
          intro l hl vs W dn e1 e2 e3 hS hR hp
          have f5 : dn 5 = dn 5 := rfl
          have f10 : dn 10 = dn 10 := rfl
          have f15 : dn 15 = dn 15 := rfl
          have f20 : dn 20 = dn 20 := rfl
          have f25 : dn 25 = false := e3 25 (by kernel_rfl)
          have f28 : dn 28 = false := e3 28 (by kernel_rfl)
          replace hS : (fun W => (dn 28) = false → Rst bi b W (pick5 (dn 5) (dn 10) (dn 15) (dn 20) (dn 25) o0 o1 o2 o3 o4 o5) ∧ W.ownsRow B 86 5 u3 k xs ∧ B ≤ W.heap.size) W := hS
          rw [f25, f28] at hS
          have g5 : (dn 5 || ((23 : Nat) == 5)) = dn 5 := Bool.or_false _
          have g10 : (dn 10 || ((23 : Nat) == 10)) = dn 10 := Bool.or_false _
          have g15 : (dn 15 || ((23 : Nat) == 15)) = dn 15 := Bool.or_false _
          have g20 : (dn 20 || ((23 : Nat) == 20)) = dn 20 := Bool.or_false _
          have g25 : (dn 25 || ((23 : Nat) == 25)) = false := by rw [f25]; rfl
          have g28 : (dn 28 || ((23 : Nat) == 28)) = false := by rw [f28]; rfl
          refine OpGoal.imp (S1 := fun W => false = false → Rst bi b W (pick5 (dn 5) (dn 10) (dn 15) (dn 20) false o0 o1 o2 o3 o4 o5) ∧ W.ownsRow B 86 5 u3 k xs ∧ B ≤ W.heap.size) (fun W' h => ?_) ?_
          · show (fun W => (dn 28 || ((23 : Nat) == 28)) = false → Rst bi b W (pick5 (dn 5 || ((23 : Nat) == 5)) (dn 10 || ((23 : Nat) == 10)) (dn 15 || ((23 : Nat) == 15)) (dn 20 || ((23 : Nat) == 20)) (dn 25 || ((23 : Nat) == 25)) o0 o1 o2 o3 o4 o5) ∧ W.ownsRow B 86 5 u3 k xs ∧ B ≤ W.heap.size) W'
            rw [g5, g10, g15, g20, g25, g28]
            exact h
          clear g5 g10 g15 g20 g25 g28 e1 e2 e3
          obtain rfl : l = [(21, 29), (22, 30)] := hl.symm.trans (by kernel_rfl)
          have p22 : vs 22 = _ := hp 22 (by decide) (by decide)
          clear hp hl
          refine opgoal (_) (some 31) rfl rfl fun K hK => ?_
          refine Runs.mk ?_
          simp only [putAll]
          go_simp
          refine hK _ _ ?_ hS ⟨fun h => absurd h (by decide), fun h => absurd h (by decide), fun h => absurd h (by decide), fun h => absurd h (by decide), fun h => absurd h (by decide), fun h => absurd h (by decide), fun h5 h10 h15 h20 h25 h28 => ((fun w => Below.refl _ w) W)⟩ _ rfl rfl
          first | rfl | go_simp | simp
        · -- 24: Op.load 37 (Operand.tmp 31)
          intro l hl vs W dn e1 e2 e3 hS hR hp
          have f5 : dn 5 = dn 5 := rfl
          have f10 : dn 10 = dn 10 := rfl
          have f15 : dn 15 = dn 15 := rfl
          have f20 : dn 20 = dn 20 := rfl
          have f25 : dn 25 = false := e3 25 (by kernel_rfl)
          have f28 : dn 28 = false := e3 28 (by kernel_rfl)
          replace hS : (fun W => (dn 28) = false → Rst bi b W (pick5 (dn 5) (dn 10) (dn 15) (dn 20) (dn 25) o0 o1 o2 o3 o4 o5) ∧ W.ownsRow B 86 5 u3 k xs ∧ B ≤ W.heap.size) W := hS
          rw [f25, f28] at hS
          have g5 : (dn 5 || ((24 : Nat) == 5)) = dn 5 := Bool.or_false _
          have g10 : (dn 10 || ((24 : Nat) == 10)) = dn 10 := Bool.or_false _
          have g15 : (dn 15 || ((24 : Nat) == 15)) = dn 15 := Bool.or_false _
          have g20 : (dn 20 || ((24 : Nat) == 20)) = dn 20 := Bool.or_false _
          have g25 : (dn 25 || ((24 : Nat) == 25)) = false := by rw [f25]; rfl
          have g28 : (dn 28 || ((24 : Nat) == 28)) = false := by rw [f28]; rfl
          refine OpGoal.imp (S1 := fun W => false = false → Rst bi b W (pick5 (dn 5) (dn 10) (dn 15) (dn 20) false o0 o1 o2 o3 o4 o5) ∧ W.ownsRow B 86 5 u3 k xs ∧ B ≤ W.heap.size) (fun W' h => ?_) ?_
          · show (fun W => (dn 28 || ((24 : Nat) == 28)) = false → Rst bi b W (pick5 (dn 5 || ((24 : Nat) == 5)) (dn 10 || ((24 : Nat) == 10)) (dn 15 || ((24 : Nat) == 15)) (dn 20 || ((24 : Nat) == 20)) (dn 25 || ((24 : Nat) == 25)) o0 o1 o2 o3 o4 o5) ∧ W.ownsRow B 86 5 u3 k xs ∧ B ≤ W.heap.size) W'
            rw [g5, g10, g15, g20, g25, g28]
            exact h
          clear g5 g10 g15 g20 g25 g28 e1 e2 e3
          obtain rfl : l = [(21, 29), (22, 30), (23, 31)] := hl.symm.trans (by kernel_rfl)
          have p23 : vs 23 = _ := hp 23 (by decide) (by decide)
          clear hp hl
          refine opgoal (_) (some 32) rfl rfl fun K hK => ?_
          have hi0 := hI.out W hR
          refine Runs.mk ?_
          simp only [putAll]
          go_simp
          refine hK _ _ ?_ hS ⟨fun h => absurd h (by decide), fun h => absurd h (by decide), fun h => absurd h (by decide), fun h => absurd h (by decide), fun h => absurd h (by decide), fun h => absurd h (by decide), fun h5 h10 h15 h20 h25 h28 => ((fun w => Below.refl _ w) W)⟩ _ rfl rfl
          first | rfl | go_simp | simp
        · -- 25: Op.call { callee := Callee.value (Operand.func 85), args := #[Operand.tmp 32], argTypes := #[37] }
          intro l hl vs W dn e1 e2 e3 hS hR hp
          have f5 : dn 5 = true := e2 5 (by kernel_rfl)
          have f10 : dn 10 = true := e2 10 (by kernel_rfl)
          have f15 : dn 15 = true := e2 15 (by kernel_rfl)
          have f20 : dn 20 = true := e2 20 (by kernel_rfl)
          have f25 : dn 25 = false := e1
          have f28 : dn 28 = false := e3 28 (by kernel_rfl)
          replace hS : (fun W => (dn 28) = false → Rst bi b W (pick5 (dn 5) (dn 10) (dn 15) (dn 20) (dn 25) o0 o1 o2 o3 o4 o5) ∧ W.ownsRow B 86 5 u3 k xs ∧ B ≤ W.heap.size) W := hS
          rw [f5, f10, f15, f20, f25, f28] at hS
          have g5 : (dn 5 || ((25 : Nat) == 5)) = true := by rw [f5]; rfl
          have g10 : (dn 10 || ((25 : Nat) == 10)) = true := by rw [f10]; rfl
          have g15 : (dn 15 || ((25 : Nat) == 15)) = true := by rw [f15]; rfl
          have g20 : (dn 20 || ((25 : Nat) == 20)) = true := by rw [f20]; rfl
          have g25 : (dn 25 || ((25 : Nat) == 25)) = true := by rw [f25]; rfl
          have g28 : (dn 28 || ((25 : Nat) == 28)) = false := by rw [f28]; rfl
          refine OpGoal.imp (S1 := fun W => false = false → Rst bi b W (pick5 true true true true true o0 o1 o2 o3 o4 o5) ∧ W.ownsRow B 86 5 u3 k xs ∧ B ≤ W.heap.size) (fun W' h => ?_) ?_
          · show (fun W => (dn 28 || ((25 : Nat) == 28)) = false → Rst bi b W (pick5 (dn 5 || ((25 : Nat) == 5)) (dn 10 || ((25 : Nat) == 10)) (dn 15 || ((25 : Nat) == 15)) (dn 20 || ((25 : Nat) == 20)) (dn 25 || ((25 : Nat) == 25)) o0 o1 o2 o3 o4 o5) ∧ W.ownsRow B 86 5 u3 k xs ∧ B ≤ W.heap.size) W'
            rw [g5, g10, g15, g20, g25, g28]
            exact h
          clear g5 g10 g15 g20 g25 g28 e1 e2 e3
          obtain rfl : l = [(1, 9), (2, 10), (3, 11), (4, 12), (5, 13), (6, 14), (7, 15), (8, 16), (9, 17), (10, 18), (11, 19), (12, 20), (13, 21), (14, 22), (15, 23), (16, 24), (17, 25), (18, 26), (19, 27), (20, 28), (21, 29), (22, 30), (23, 31), (24, 32)] := hl.symm.trans (by kernel_rfl)
          have p24 : vs 24 = _ := hp 24 (by decide) (by decide)
          clear hp hl
          refine opgoal (_) (some 33) rfl rfl fun K hK => ?_
          refine Runs.mk ?_
          simp only [putAll]
          go_simp
          refine (num_read b o4.1 o4.2 W (hS rfl).1.rd hz4.out).mono ?_
          rintro e w' ⟨he, hr, hk⟩
          rw [hn5.out] at he
          subst he
          rw [hs5.out, hq5.out] at hr
          go_simp
          exact hK _ _ rfl (fun _ => ⟨(hS rfl).1.step hr hk, own_keep (hS rfl).2.1 hk (fun j hj => by have := hnb.out j hj; simpa using this), Nat.le_trans (hS rfl).2.2 hk.size⟩) ⟨fun h => absurd h (by decide), fun h => absurd h (by decide), fun h => absurd h (by decide), fun h => absurd h (by decide), fun _ => hk, fun h => absurd h (by decide), fun h5 h10 h15 h20 h25 h28 => absurd rfl h25⟩ _ rfl rfl
        · -- 26: Op.build 86 #[(0, Operand.tmp 13), (1, Operand.tmp 18), (2, Operand.tmp 23), (3, Operand.tmp 28), (4, Operand.tmp 33)]
          intro l hl vs W dn e1 e2 e3 hS hR hp
          have f5 : dn 5 = true := e2 5 (by kernel_rfl)
          have f10 : dn 10 = true := e2 10 (by kernel_rfl)
          have f15 : dn 15 = true := e2 15 (by kernel_rfl)
          have f20 : dn 20 = true := e2 20 (by kernel_rfl)
          have f25 : dn 25 = true := e2 25 (by kernel_rfl)
          have f28 : dn 28 = false := e3 28 (by kernel_rfl)
          replace hS : (fun W => (dn 28) = false → Rst bi b W (pick5 (dn 5) (dn 10) (dn 15) (dn 20) (dn 25) o0 o1 o2 o3 o4 o5) ∧ W.ownsRow B 86 5 u3 k xs ∧ B ≤ W.heap.size) W := hS
          rw [f5, f10, f15, f20, f25, f28] at hS
          have g5 : (dn 5 || ((26 : Nat) == 5)) = true := by rw [f5]; rfl
          have g10 : (dn 10 || ((26 : Nat) == 10)) = true := by rw [f10]; rfl
          have g15 : (dn 15 || ((26 : Nat) == 15)) = true := by rw [f15]; rfl
          have g20 : (dn 20 || ((26 : Nat) == 20)) = true := by rw [f20]; rfl
          have g25 : (dn 25 || ((26 : Nat) == 25)) = true := by rw [f25]; rfl
          have g28 : (dn 28 || ((26 : Nat) == 28)) = false := by rw [f28]; rfl
          refine OpGoal.imp (S1 := fun W => false = false → Rst bi b W (pick5 true true true true true o0 o1 o2 o3 o4 o5) ∧ W.ownsRow B 86 5 u3 k xs ∧ B ≤ W.heap.size) (fun W' h => ?_) ?_
          · show (fun W => (dn 28 || ((26 : Nat) == 28)) = false → Rst bi b W (pick5 (dn 5 || ((26 : Nat) == 5)) (dn 10 || ((26 : Nat) == 10)) (dn 15 || ((26 : Nat) == 15)) (dn 20 || ((26 : Nat) == 20)) (dn 25 || ((26 : Nat) == 25)) o0 o1 o2 o3 o4 o5) ∧ W.ownsRow B 86 5 u3 k xs ∧ B ≤ W.heap.size) W'
            rw [g5, g10, g15, g20, g25, g28]
            exact h
          clear g5 g10 g15 g20 g25 g28 e1 e2 e3
          obtain rfl : l = [(1, 9), (2, 10), (3, 11), (4, 12), (5, 13), (6, 14), (7, 15), (8, 16), (9, 17), (10, 18), (11, 19), (12, 20), (13, 21), (14, 22), (15, 23), (16, 24), (17, 25), (18, 26), (19, 27), (20, 28), (21, 29), (22, 30), (23, 31), (24, 32), (25, 33)] := hl.symm.trans (by kernel_rfl)
          have p5 : vs 5 = _ := hp 5 (by decide) (by decide)
          have p10 : vs 10 = _ := hp 10 (by decide) (by decide)
          have p15 : vs 15 = _ := hp 15 (by decide) (by decide)
          have p20 : vs 20 = _ := hp 20 (by decide) (by decide)
          have p25 : vs 25 = _ := hp 25 (by decide) (by decide)
          clear hp hl
          refine opgoal (_) (some 34) rfl rfl fun K hK => ?_
          refine Runs.mk ?_
          simp only [putAll]
          go_simp
          refine hK _ _ ?_ hS ⟨fun h => absurd h (by decide), fun h => absurd h (by decide), fun h => absurd h (by decide), fun h => absurd h (by decide), fun h => absurd h (by decide), fun h => absurd h (by decide), fun h5 h10 h15 h20 h25 h28 => ((fun w => Below.refl _ w) W)⟩ _ rfl rfl
          first | rfl | go_simp | simp
        · -- 27: Op.buildSlice 54 1 #[(0, Operand.tmp 34)]
          intro l hl vs W dn e1 e2 e3 hS hR hp
          have f5 : dn 5 = true := e2 5 (by kernel_rfl)
          have f10 : dn 10 = true := e2 10 (by kernel_rfl)
          have f15 : dn 15 = true := e2 15 (by kernel_rfl)
          have f20 : dn 20 = true := e2 20 (by kernel_rfl)
          have f25 : dn 25 = true := e2 25 (by kernel_rfl)
          have f28 : dn 28 = false := e3 28 (by kernel_rfl)
          replace hS : (fun W => (dn 28) = false → Rst bi b W (pick5 (dn 5) (dn 10) (dn 15) (dn 20) (dn 25) o0 o1 o2 o3 o4 o5) ∧ W.ownsRow B 86 5 u3 k xs ∧ B ≤ W.heap.size) W := hS
          rw [f5, f10, f15, f20, f25, f28] at hS
          have g5 : (dn 5 || ((27 : Nat) == 5)) = true := by rw [f5]; rfl
          have g10 : (dn 10 || ((27 : Nat) == 10)) = true := by rw [f10]; rfl
          have g15 : (dn 15 || ((27 : Nat) == 15)) = true := by rw [f15]; rfl
          have g20 : (dn 20 || ((27 : Nat) == 20)) = true := by rw [f20]; rfl
          have g25 : (dn 25 || ((27 : Nat) == 25)) = true := by rw [f25]; rfl
          have g28 : (dn 28 || ((27 : Nat) == 28)) = false := by rw [f28]; rfl
          refine OpGoal.imp (S1 := fun W => false = false → Rst bi b W (pick5 true true true true true o0 o1 o2 o3 o4 o5) ∧ W.ownsRow B 86 5 u3 k xs ∧ B ≤ W.heap.size) (fun W' h => ?_) ?_
          · show (fun W => (dn 28 || ((27 : Nat) == 28)) = false → Rst bi b W (pick5 (dn 5 || ((27 : Nat) == 5)) (dn 10 || ((27 : Nat) == 10)) (dn 15 || ((27 : Nat) == 15)) (dn 20 || ((27 : Nat) == 20)) (dn 25 || ((27 : Nat) == 25)) o0 o1 o2 o3 o4 o5) ∧ W.ownsRow B 86 5 u3 k xs ∧ B ≤ W.heap.size) W'
            rw [g5, g10, g15, g20, g25, g28]
            exact h
          clear g5 g10 g15 g20 g25 g28 e1 e2 e3
          obtain rfl : l = [(1, 9), (2, 10), (3, 11), (4, 12), (5, 13), (6, 14), (7, 15), (8, 16), (9, 17), (10, 18), (11, 19), (12, 20), (13, 21), (14, 22), (15, 23), (16, 24), (17, 25), (18, 26), (19, 27), (20, 28), (21, 29), (22, 30), (23, 31), (24, 32), (25, 33), (26, 34)] := hl.symm.trans (by kernel_rfl)
          have p26 : vs 26 = _ := hp 26 (by decide) (by decide)
          clear hp hl
          refine opgoal (_) (some 35) rfl rfl fun K hK => ?_
          refine Runs.mk ?_
          simp only [putAll]
          go_simp
          have hb := below_alloc W (.cells #[.int .i64 n1, .int .i64 n2, .int .i64 n3, .bool n4, .int .i64 n5] 86)
          exact hK _ _ ⟨W.heap.size, rfl, by simp, heap_alloc_new _ _⟩ (fun h => ⟨(hS h).1.below hb, own_kept (hS h).2.1 hb, Nat.le_trans (hS h).2.2 hb.size⟩) ⟨fun h => absurd h (by decide), fun h => absurd h (by decide), fun h => absurd h (by decide), fun h => absurd h (by decide), fun h => absurd h (by decide), fun h => absurd h (by decide), fun _ _ _ _ _ _ => hb⟩ _ rfl rfl
        · -- 28: Op.call { callee := Callee.builtin Builtin.append, args := #[Operand.tmp 8, Operand.tmp 35], argTypes := #[54, 54] }
          intro l hl vs W dn e1 e2 e3 hS hR hp
          have f5 : dn 5 = true := e2 5 (by kernel_rfl)
          have f10 : dn 10 = true := e2 10 (by kernel_rfl)
          have f15 : dn 15 = true := e2 15 (by kernel_rfl)
          have f20 : dn 20 = true := e2 20 (by kernel_rfl)
          have f25 : dn 25 = true := e2 25 (by kernel_rfl)
          have f28 : dn 28 = false := e1
          replace hS : (fun W => (dn 28) = false → Rst bi b W (pick5 (dn 5) (dn 10) (dn 15) (dn 20) (dn 25) o0 o1 o2 o3 o4 o5) ∧ W.ownsRow B 86 5 u3 k xs ∧ B ≤ W.heap.size) W := hS
          rw [f5, f10, f15, f20, f25, f28] at hS
          have g5 : (dn 5 || ((28 : Nat) == 5)) = true := by rw [f5]; rfl
          have g10 : (dn 10 || ((28 : Nat) == 10)) = true := by rw [f10]; rfl
          have g15 : (dn 15 || ((28 : Nat) == 15)) = true := by rw [f15]; rfl
          have g20 : (dn 20 || ((28 : Nat) == 20)) = true := by rw [f20]; rfl
          have g25 : (dn 25 || ((28 : Nat) == 25)) = true := by rw [f25]; rfl
          have g28 : (dn 28 || ((28 : Nat) == 28)) = true := by rw [f28]; rfl
          refine OpGoal.imp (S1 := fun W => true = false → Rst bi b W (pick5 true true true true true o0 o1 o2 o3 o4 o5) ∧ W.ownsRow B 86 5 u3 k xs ∧ B ≤ W.heap.size) (fun W' h => ?_) ?_
          · show (fun W => (dn 28 || ((28 : Nat) == 28)) = false → Rst bi b W (pick5 (dn 5 || ((28 : Nat) == 5)) (dn 10 || ((28 : Nat) == 10)) (dn 15 || ((28 : Nat) == 15)) (dn 20 || ((28 : Nat) == 20)) (dn 25 || ((28 : Nat) == 25)) o0 o1 o2 o3 o4 o5) ∧ W.ownsRow B 86 5 u3 k xs ∧ B ≤ W.heap.size) W'
            rw [g5, g10, g15, g20, g25, g28]
            exact h
          clear g5 g10 g15 g20 g25 g28 e1 e2 e3
          obtain rfl : l = [(0, 8), (1, 9), (2, 10), (3, 11), (4, 12), (5, 13), (6, 14), (7, 15), (8, 16), (9, 17), (10, 18), (11, 19), (12, 20), (13, 21), (14, 22), (15, 23), (16, 24), (17, 25), (18, 26), (19, 27), (20, 28), (21, 29), (22, 30), (23, 31), (24, 32), (25, 33), (26, 34), (27, 35)] := hl.symm.trans (by kernel_rfl)
          have p0 : vs 0 = _ := hp 0 (by decide) (by decide)
          have p27 : (fun v W => ∃ j, v = .slice (some ⟨j, 0, none⟩) 1 1 ∧ j < W.heap.size ∧ W.heap[j]? = some (.cells #[.int .i64 n1, .int .i64 n2, .int .i64 n3, .bool n4, .int .i64 n5] 86 (0, 0))) (vs 27) W := hp 27 (by decide) (by decide)
          dsimp only at p27
          clear hp hl
          obtain ⟨j, q27, l27, b27⟩ := p27
          refine opgoal ({ dst := some 36, op := Op.call { callee := Callee.builtin Builtin.append, args := #[Operand.tmp 8, Operand.tmp 35], argTypes := #[54, 54] }, type := 54, pos := "item.go:115", after := #[{ on := 0, ground := Ground.data }, { on := 27, ground := Ground.data }, { on := 25, ground := Ground.chain }], guard := none }) (some 36) rfl rfl fun K hK => ?_
          refine runs_append_src W (wanted_none rfl) (.tmp 8) (.tmp 35) B 54 86 (.agg #[.int .i64 0, .int .i64 0, .int .i64 0, .bool false, .int .i64 0]) 5 40 rfl (by kernel_rfl) (by kernel_rfl) rfl (by decide) (by decide) u3 k xs (by simp [putAll, Act.put, Act.eval, p0]) (hS rfl).2.1 (some ⟨j, 0, none⟩) 1 1 (by simp [putAll, Act.put, Act.eval, q27]) (fun h => by cases h) [.int .i64 n1, .int .i64 n2, .int .i64 n3, .bool n4, .int .i64 n5] rfl (lies_block b27) (by simp [Value.oneCell']) (by have := hk16.out; omega) (hS rfl).2.2 ?_
          intro v' w' h1 h2 h3
          have hkk : Keep (b :: ob.toList) W w' := keep_grown h2 _ (fun j hj _ => by rw [hob.out] at hj; simp [hj])
          exact hK _ _ ⟨h1, (hS rfl).1.grown h2 (fun j hj => hnb.out j hj) hnbi.out⟩ (fun h => by cases h) ⟨fun h => absurd h (by decide), fun h => absurd h (by decide), fun h => absurd h (by decide), fun h => absurd h (by decide), fun h => absurd h (by decide), fun _ => hkk, fun h5 h10 h15 h20 h25 h28 => absurd rfl h28⟩ _ put_dfs (put_slot (by simp))
        · -- 29: Op.assign (Operand.tmp 36)
          intro l hl vs W dn e1 e2 e3 hS hR hp
          have f5 : dn 5 = true := e2 5 (by kernel_rfl)
          have f10 : dn 10 = true := e2 10 (by kernel_rfl)
          have f15 : dn 15 = true := e2 15 (by kernel_rfl)
          have f20 : dn 20 = true := e2 20 (by kernel_rfl)
          have f25 : dn 25 = true := e2 25 (by kernel_rfl)
          have f28 : dn 28 = true := e2 28 (by kernel_rfl)
          replace hS : (fun W => (dn 28) = false → Rst bi b W (pick5 (dn 5) (dn 10) (dn 15) (dn 20) (dn 25) o0 o1 o2 o3 o4 o5) ∧ W.ownsRow B 86 5 u3 k xs ∧ B ≤ W.heap.size) W := hS
          rw [f5, f10, f15, f20, f25, f28] at hS
          have g5 : (dn 5 || ((29 : Nat) == 5)) = true := by rw [f5]; rfl
          have g10 : (dn 10 || ((29 : Nat) == 10)) = true := by rw [f10]; rfl
          have g15 : (dn 15 || ((29 : Nat) == 15)) = true := by rw [f15]; rfl
          have g20 : (dn 20 || ((29 : Nat) == 20)) = true := by rw [f20]; rfl
          have g25 : (dn 25 || ((29 : Nat) == 25)) = true := by rw [f25]; rfl
          have g28 : (dn 28 || ((29 : Nat) == 28)) = true := by rw [f28]; rfl
          refine OpGoal.imp (S1 := fun W => true = false → Rst bi b W (pick5 true true true true true o0 o1 o2 o3 o4 o5) ∧ W.ownsRow B 86 5 u3 k xs ∧ B ≤ W.heap.size) (fun W' h => ?_) ?_
          · show (fun W => (dn 28 || ((29 : Nat) == 28)) = false → Rst bi b W (pick5 (dn 5 || ((29 : Nat) == 5)) (dn 10 || ((29 : Nat) == 10)) (dn 15 || ((29 : Nat) == 15)) (dn 20 || ((29 : Nat) == 20)) (dn 25 || ((29 : Nat) == 25)) o0 o1 o2 o3 o4 o5) ∧ W.ownsRow B 86 5 u3 k xs ∧ B ≤ W.heap.size) W'
            rw [g5, g10, g15, g20, g25, g28]
            exact h
          clear g5 g10 g15 g20 g25 g28 e1 e2 e3
          obtain rfl : l = [(0, 8), (1, 9), (2, 10), (3, 11), (4, 12), (5, 13), (6, 14), (7, 15), (8, 16), (9, 17), (10, 18), (11, 19), (12, 20), (13, 21), (14, 22), (15, 23), (16, 24), (17, 25), (18, 26), (19, 27), (20, 28), (21, 29), (22, 30), (23, 31), (24, 32), (25, 33), (26, 34), (27, 35), (28, 36)] := hl.symm.trans (by kernel_rfl)
          have p28 : (fun v W => W.ownsRow B 86 5 v (k + 1) (xs ++ [.int .i64 n1, .int .i64 n2, .int .i64 n3, .bool n4, .int .i64 n5]) ∧ Rst bi b W o5) (vs 28) W := hp 28 (by decide) (by decide)
          dsimp only at p28
          clear hp hl
          refine opgoal (_) (some 3) rfl rfl fun K hK => ?_
          refine Runs.mk ?_
          simp only [putAll]
          go_simp
          exact hK _ _ p28 hS ⟨fun h => absurd h (by decide), fun h => absurd h (by decide), fun h => absurd h (by decide), fun h => absurd h (by decide), fun h => absurd h (by decide), fun h => absurd h (by decide), fun _ _ _ _ _ _ => (fun w => Below.refl _ w) W⟩ _ rfl rfl
      · intro l hl vs W dn hd hS hR hp
        replace hS : (fun W => (dn 28) = false → Rst bi b W (pick5 (dn 5) (dn 10) (dn 15) (dn 20) (dn 25) o0 o1 o2 o3 o4 o5) ∧ W.ownsRow B 86 5 u3 k xs ∧ B ≤ W.heap.size) W := hS
        rw [hd 5 (by decide), hd 10 (by decide), hd 15 (by decide), hd 20 (by decide), hd 25 (by decide), hd 28 (by decide)] at hS
        obtain rfl : l = [(0, 8), (1, 9), (2, 10), (3, 11), (4, 12), (5, 13), (6, 14), (7, 15), (8, 16), (9, 17), (10, 18), (11, 19), (12, 20), (13, 21), (14, 22), (15, 23), (16, 24), (17, 25), (18, 26), (19, 27), (20, 28), (21, 29), (22, 30), (23, 31), (24, 32), (25, 33), (26, 34), (27, 35), (28, 36), (29, 3)] := hl.symm.trans (by kernel_rfl)
        have p0 : vs 0 = _ := hp 0 (by decide) (by decide)
        have p1 : vs 1 = _ := hp 1 (by decide) (by decide)
        have p2 : vs 2 = _ := hp 2 (by decide) (by decide)
        have p3 : vs 3 = _ := hp 3 (by decide) (by decide)
        have p4 : vs 4 = _ := hp 4 (by decide) (by decide)
        have p5 : vs 5 = _ := hp 5 (by decide) (by decide)
        have p6 : vs 6 = _ := hp 6 (by decide) (by decide)
        have p7 : vs 7 = _ := hp 7 (by decide) (by decide)
        have p8 : vs 8 = _ := hp 8 (by decide) (by decide)
        have p9 : vs 9 = _ := hp 9 (by decide) (by decide)
        have p10 : vs 10 = _ := hp 10 (by decide) (by decide)
        have p11 : vs 11 = _ := hp 11 (by decide) (by decide)
        have p12 : vs 12 = _ := hp 12 (by decide) (by decide)
        have p13 : vs 13 = _ := hp 13 (by decide) (by decide)
        have p14 : vs 14 = _ := hp 14 (by decide) (by decide)
        have p15 : vs 15 = _ := hp 15 (by decide) (by decide)
        have p16 : vs 16 = _ := hp 16 (by decide) (by decide)
        have p17 : vs 17 = _ := hp 17 (by decide) (by decide)
        have p18 : vs 18 = _ := hp 18 (by decide) (by decide)
        have p19 : vs 19 = _ := hp 19 (by decide) (by decide)
        have p20 : vs 20 = _ := hp 20 (by decide) (by decide)
        have p21 : vs 21 = _ := hp 21 (by decide) (by decide)
        have p22 : vs 22 = _ := hp 22 (by decide) (by decide)
        have p23 : vs 23 = _ := hp 23 (by decide) (by decide)
        have p24 : vs 24 = _ := hp 24 (by decide) (by decide)
        have p25 : vs 25 = _ := hp 25 (by decide) (by decide)
        have p26 : vs 26 = _ := hp 26 (by decide) (by decide)
        have p29 : (fun v W => W.ownsRow B 86 5 v (k + 1) (xs ++ [.int .i64 n1, .int .i64 n2, .int .i64 n3, .bool n4, .int .i64 n5]) ∧ Rst bi b W o5) (vs 29) W := hp 29 (by decide) (by decide)
        dsimp only at p29
        clear hp hl
        simp only [putAll_mk, setAll, List.setIfInBounds_toArray, List.set_cons_succ, List.set_cons_zero, p0, p1, p2, p3, p4, p5, p6, p7, p8, p9, p10, p11, p12, p13, p14, p15, p16, p17, p18, p19, p20, p21, p22, p23, p24, p25, p26]
        have HE := Lib.hid p29
        have HRR := Lib.hid hR
        clear p29 hR hS
        go_wp2
        go_roundw
        case rel => exact ⟨k + 1, by omega, by go_num, HNX.out _ _ HE.out HRR.out⟩
        case measure => simp [intOf]; omega
    · obtain rfl : m = k := by omega
      go_wp2
      go_ret
      exact ⟨_, rfl, ho, hr, hkp⟩
end Go.Proofs.Ytfpocddpnoighaa.It

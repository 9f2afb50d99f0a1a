/- wire: things as a law's argument; long; put. -/
import Derived.Test.YtfpocddpnoighaaWrD
import Derived.Test.YtfpocddpnoighaaE
namespace Go.Proofs.Ytfpocddpnoighaa.Wr
open Go.RowKit Go.Proofs.Ytfpocddpnoighaa.L Go.Proofs.Ytfpocddpnoighaa.O Go.Proofs.Ytfpocddpnoighaa.A Go.Proofs.Ytfpocddpnoighaa.S Go.Proofs.Ytfpocddpnoighaa.T Go.Proofs.Ytfpocddpnoighaa.E
set_option linter.unusedVariables false
set_option linter.unusedSimpArgs false

structure Th where
  k : Int
  n : Int
  s : ByteArray
def encTh (x : Th) : List Value := [.int .i64 x.k, .int .i64 x.n, .string x.s]
def goodTh (x : Th) : Prop := x.s.size ≤ 140737488351232 ∧ -9223372036854775808 ≤ x.n ∧ x.n ≤ 9223372036854775807
set_option maxRecDepth 100000 in
theorem opens_th (W : World) : Opens Try.prog W 32 encTh goodTh :=
  Opens.as (opens_struct (w := W) Try.underlying32 (by kernel_rfl)
      (opens_fc (off' := 1) rfl (by kernel_rfl) (opens_int Try.underlying3) (opens_fc (off' := 2) rfl (by kernel_rfl) (opens_int Try.underlying3) (opens_fc (off' := 3) rfl (by kernel_rfl) (opens_string Try.underlying9) (opens_f0 3)))))
    encTh goodTh (fun x => ⟨x.1, x.2.1, x.2.2.1⟩) (fun _ => rfl) (fun x h => by obtain ⟨_, h2, h3, _⟩ := h; exact ⟨h3, i64_range h2⟩)
theorem opens_ths (W : World) : Opens Try.prog W 22 (fun s : Sl Th => [.slice s.A s.n s.c]) (SlOk W 3 32 encTh goodTh) :=
  opens_slice Try.underlying22 (by kernel_rfl) (by omega) (by kernel_rfl) (opens_th W)
/-- things that came in. -/
structure Things (w : World) (A : Option Addr) (n : Nat) (l : List Th) : Prop where
  rd : RdE w A n 3 (l.map encTh)
  good : ∀ x ∈ l, goodTh x
theorem things_of {w : World} {s : Sl Th} (h : SlOk w 3 32 encTh goodTh s) : Things w s.A s.n s.xs := ⟨rdE_of h, fun x hx => (h.2.2.2.2.2.1 x hx).1⟩
theorem Things.len {w : World} {A : Option Addr} {n : Nat} {l : List Th} (h : Things w A n l) : l.length = n := by simpa using h.rd.1
theorem Things.below {w w1 : World} {A : Option Addr} {n : Nat} {l : List Th} (h : Things w A n l) (hb : Below w.heap.size w w1) : Things w1 A n l := ⟨h.rd.below hb, h.good⟩
theorem Things.at {w : World} {A : Option Addr} {n : Nat} {l : List Th} (h : Things w A n l) (i : Nat) (hi : i < n) : ∃ b o x, A = some ⟨b, o, none⟩ ∧ (∃ hl : i < l.length, l[i] = x) ∧ goodTh x ∧
    w.cell? ⟨b, o + i * 3, none⟩ = some (.int .i64 x.k) ∧ w.cell? ⟨b, o + i * 3 + 1, none⟩ = some (.int .i64 x.n) ∧ w.cell? ⟨b, o + i * 3 + 2, none⟩ = some (.string x.s) := by
  obtain ⟨b, o, hA, hl, hc⟩ := h.rd.at i hi
  exact ⟨b, o, l[i], hA, ⟨hl, rfl⟩, h.good _ (List.getElem_mem hl), hc 0 (by omega), hc 1 (by omega), hc 2 (by omega)⟩

/-- bytes of texts. -/
def tot : List Th → Nat
  | [] => 0
  | x :: l => x.s.size + tot l
theorem tot_app (a b : List Th) : tot (a ++ b) = tot a + tot b := by
  induction a with
  | nil => simp [tot]
  | cons x a ih => simp [tot, ih]; omega
/-- is one of the sums on the way more than is played? -/
def longB (l : List Th) : Bool := decide (100 < l.length) || decide (200000 < tot l)
theorem tot_take (l : List Th) (k : Nat) (h : k < l.length) : tot (l.take (k + 1)) = tot (l.take k) + (l[k]).s.size := by
  rw [List.take_succ_eq_append_getElem h, tot_app]
  simp [tot]
theorem tot_le (l : List Th) (k : Nat) : tot (l.take k) ≤ tot l := by
  have := tot_app (l.take k) (l.drop k)
  rw [List.take_append_drop] at this
  omega
set_option maxHeartbeats 1000000 in
theorem long_any (w : World) (A : Option Addr) (n c : Nat) (l : List Th) (h : Things w A n l) (r : Bool) (hr' : longB l = r) :
    Calls Try.prog 20 #[.slice A n c] w fun e w' => e = .returned (.bool r) ∧ Below w.heap.size w w' := by
  have hln := h.rd.2.1
  have hl := Lib.hid h.len
  have H := Lib.hid h
  have hr := Lib.hid hr'
  clear h hr'
  by_cases hbig : 100 < n
  · have e : Hid (r = true) := Lib.hid (by rw [← hr.out]; simp [longB, hl.out, hbig])
    go_enter Try.func20, Try.ntmps20
    go_wp2
    go_ret
    exact ⟨retb e.out, Below.refl _ _⟩
  · go_enter Try.func20, Try.ntmps20
    go_wp2
    go_loopw [3, 11] (fun t i wr => ∃ k m : Nat, k ≤ n ∧ t = .int .i64 m ∧ i = .int .i64 k ∧ Below w.heap.size w wr ∧ m ≤ 200000 ∧ Hid (m = tot (l.take k))) (fun _ i _ => n - (intOf i).toNat)
    case atStart => exact ⟨0, 0, by omega, rfl, rfl, Below.refl _ _, by omega, Lib.hid rfl⟩
    case round =>
      obtain ⟨k, m, hk, rfl, rfl, hb, hm, hsum⟩ := hrel
      by_cases hlt : k < n
      · obtain ⟨ab, ao, x, hA, ⟨hkl, hx⟩, hg, c0, c1, c2⟩ := (H.out.below hb).at k hlt
        subst hA
        obtain ⟨xk, xn, xs⟩ := x
        have hx' := Lib.hid hx
        have hg1 := hg.1
        clear hx hg
        dsimp only at c0 c1 c2 hg1
        have hstep : Hid (m + xs.size = tot (l.take (k + 1))) := Lib.hid (by rw [tot_take l k hkl, hx'.out, ← hsum.out])
        by_cases hbg : 200000 < m + xs.size
        · have e : Hid (r = true) := Lib.hid (by
            rw [← hr.out]
            have := tot_le l (k + 1)
            have h2 := hstep.out
            simp [longB]
            omega)
          have hbg' : (200000 : Int) < (m : Int) + (xs.size : Nat) := by omega
          go_wp2
          go_ret
          exact ⟨retb e.out, hb.trans ((below_alloc _ _).mono hb.size)⟩
        · go_wp2
          go_roundw
          case rel => exact ⟨k + 1, m + xs.size, by omega, by go_num, by go_num, hb.trans ((below_alloc _ _).mono hb.size), by omega, hstep⟩
          case measure => simp [intOf]; omega
      · have e : Hid (r = false) := Lib.hid (by
          rw [← hr.out]
          have h2 := hsum.out
          rw [List.take_of_length_le (by have := hl.out; omega)] at h2
          simp only [longB, Bool.or_eq_false_iff, decide_eq_false_iff_not]
          have := hl.out
          omega)
        go_wp2
        go_ret
        exact ⟨retbf e.out, hb⟩

def putB (x : Th) : List UInt8 := if x.k = 0 then [UInt8.ofNat (x.n % 256).toNat] else if x.k = 1 then [if x.n = 1 then 1 else 0] else if x.k = 2 then (if okN x.n then bigB x.n.toNat 2 else []) else if x.k = 3 then bigB (u64 x.n) 8 else if x.k = 4 then textB x.s else []
def putOk (x : Th) : Bool := if x.k = 2 then okN x.n else if x.k = 4 then okN (x.s.size : Nat) else true
set_option maxHeartbeats 2000000 in
set_option maxRecDepth 100000 in
theorem put_any (b : Nat) (r : Option Nat) (bs : List UInt8) (bad : Bool) (x : Th) (w : World) (h : Wr w b r bs bad) (hlen : bs.length + 10 + x.s.size ≤ 140737488355328) :
    Calls Try.prog 21 #[.pointer (some ⟨b, 0, none⟩), .agg #[.int .i64 x.k, .int .i64 x.n, .string x.s]] w fun e w' => e = .returned (.tuple #[]) ∧ Wrs w b (blks b r) (bs ++ putB x) (bad || !putOk x) w' := by
  obtain ⟨t, ht⟩ : ∃ t, Hid (putB x = t) := ⟨_, Lib.hid rfl⟩
  obtain ⟨q, hq⟩ : ∃ q, Hid ((bad || !putOk x) = q) := ⟨_, Lib.hid rfl⟩
  rw [ht.out, hq.out]
  obtain ⟨k, n, s⟩ := x
  dsimp only at hlen ⊢
  obtain ⟨w1, hw1⟩ : ∃ w1, Hid (w.alloc (.cells #[.int .i64 k, .int .i64 n, .string s] 32) = w1) := ⟨_, Lib.hid rfl⟩
  have H0 : Hid (Wrs w b (blks b r) bs bad w1) := Lib.hid (by rw [← hw1.out]; exact (Wrs.refl h).below (below_alloc _ _))
  have hsz : Hid (w.heap.size + 1 = w1.heap.size) := Lib.hid (by rw [← hw1.out]; simp)
  clear h
  have ht' := ht.out
  have hq' := hq.out
  simp only [putB, putOk] at ht' hq'
  clear ht hq
  have HT := Lib.hid ht'
  have HQ := Lib.hid hq'
  clear ht' hq'
  by_cases k0 : k = 0
  · subst k0
    have et : Hid (t = [UInt8.ofNat (n % 256).toNat]) := Lib.hid (by rw [← HT.out]; simp)
    have eq : Hid (q = bad) := Lib.hid (by rw [← HQ.out]; simp)
    clear HT HQ
    go_enter Try.func21, Try.ntmps21
    go_wp2_with fail
    rw [hw1.out, hsz.out]
    refine (acc2 H0.out (below_alloc _ _) (fun r1 h1 hlt => byte_any b r1 bs bad [UInt8.ofNat (n % 256).toNat] _ 1 1 _ h1 (rd_bytes 1 (heap_alloc_new _ _) (by simp [Lib.byteCells, UInt8.toNat_ofNat']; omega) rfl (by decide)) (fun _ o ho hm => by injection ho with ho; subst ho; exact absurd (hlt _ hm) (Nat.lt_irrefl _)) (by simp; omega))).mono ?_
    rintro e w2 ⟨rfl, hW2⟩
    go_wp2
    refine bodyPost_end (results_none rfl _ _ _) rfl ?_
    exact ⟨rfl, by rw [et.out, eq.out]; exact hW2⟩
  by_cases k1 : k = 1
  · subst k1
    have et : Hid (t = [if n = 1 then 1 else 0]) := Lib.hid (by rw [← HT.out]; simp)
    have eq : Hid (q = bad) := Lib.hid (by rw [← HQ.out]; simp)
    clear HT HQ
    by_cases n1 : n = 1
    · subst n1
      have HC := Lib.hid (acc H0.out (fun r1 h1 => bool_any b r1 bs bad true w1 h1 (by omega)))
      go_enter Try.func21, Try.ntmps21
      go_wp2_with fail
      rw [hw1.out]
      refine HC.out.mono ?_
      rintro e w2 ⟨rfl, hW2⟩
      go_wp2
      go_end0
      exact ⟨rfl, by rw [et.out, eq.out]; exact hW2⟩
    · have n1' : (n == 1) = false := by simpa using n1
      have N1 := Lib.hid n1
      clear n1
      have HC := Lib.hid (acc H0.out (fun r1 h1 => bool_any b r1 bs bad false w1 h1 (by omega)))
      go_enter Try.func21, Try.ntmps21
      go_wp2_with fail
      rw [hw1.out]
      refine HC.out.mono ?_
      rintro e w2 ⟨rfl, hW2⟩
      go_wp2
      go_end0
      simp only [Bool.false_eq_true, if_false] at hW2
      exact ⟨rfl, by rw [et.out, eq.out, if_neg N1.out]; exact hW2⟩
  by_cases k2 : k = 2
  · subst k2
    have et : Hid (t = if okN n then bigB n.toNat 2 else []) := Lib.hid (by rw [← HT.out]; simp)
    have eq : Hid (q = (bad || !okN n)) := Lib.hid (by rw [← HQ.out]; simp)
    clear HT HQ
    have HC := Lib.hid (acc H0.out (fun r1 h1 => count_any b r1 bs bad n w1 h1 (by omega)))
    go_enter Try.func21, Try.ntmps21
    go_wp2_with fail
    rw [hw1.out]
    refine HC.out.mono ?_
    rintro e w2 ⟨rfl, hW2⟩
    go_wp2
    go_end0
    exact ⟨rfl, by rw [et.out, eq.out]; exact hW2⟩
  by_cases k3 : k = 3
  · subst k3
    have et : Hid (t = bigB (u64 n) 8) := Lib.hid (by rw [← HT.out]; simp)
    have eq : Hid (q = bad) := Lib.hid (by rw [← HQ.out]; simp)
    clear HT HQ
    go_enter Try.func21, Try.ntmps21
    go_wp2_with fail
    rw [hw1.out, hsz.out]
    refine (acc2 H0.out (below_alloc _ _) (fun r1 h1 hlt => nums_any b r1 bs bad [n] _ 1 1 _ h1 (rd_ints 1 (heap_alloc_new _ _) rfl rfl (by decide)) (fun _ o ho hm => by injection ho with ho; subst ho; exact absurd (hlt _ hm) (Nat.lt_irrefl _)) (by simp; omega))).mono ?_
    rintro e w2 ⟨rfl, hW2⟩
    go_wp2
    go_end0
    exact ⟨rfl, by rw [et.out, eq.out]; simpa [numsB] using hW2⟩
  by_cases k4 : k = 4
  · subst k4
    have et : Hid (t = textB s) := Lib.hid (by rw [← HT.out]; simp)
    have eq : Hid (q = (bad || !okN (s.size : Nat))) := Lib.hid (by rw [← HQ.out]; simp)
    clear HT HQ
    have HC := Lib.hid (acc H0.out (fun r1 h1 => text_any b r1 bs bad s w1 h1 (by omega)))
    go_enter Try.func21, Try.ntmps21
    go_wp2_with fail
    rw [hw1.out]
    refine HC.out.mono ?_
    rintro e w2 ⟨rfl, hW2⟩
    go_wp2
    go_end0
    exact ⟨rfl, by rw [et.out, eq.out]; exact hW2⟩
  · have et : Hid (t = []) := Lib.hid (by rw [← HT.out]; simp [k0, k1, k2, k3, k4])
    have eq : Hid (q = bad) := Lib.hid (by rw [← HQ.out]; simp [k0, k1, k2, k3, k4])
    clear HT HQ
    go_enter Try.func21, Try.ntmps21
    go_wp2
    rw [hw1.out]
    go_end0
    exact ⟨rfl, by rw [et.out, eq.out]; simpa using H0.out⟩
end Go.Proofs.Ytfpocddpnoighaa.Wr

/- wire: the law's awake, long, put. -/
import Derived.Test.YtfpocddpnoighaaMRu1
import Derived.Test.YtfpocddpnoighaaMRu7
import Derived.Test.YtfpocddpnoighaaMRu8
namespace Go.Proofs.Ytfpocddpnoighaa.Wr
open Go.RowKit Go.Proofs.Ytfpocddpnoighaa.L Go.Proofs.Ytfpocddpnoighaa.O Go.Proofs.Ytfpocddpnoighaa.A Go.Proofs.Ytfpocddpnoighaa.S Go.Proofs.Ytfpocddpnoighaa.T
set_option linter.unusedVariables false
set_option linter.unusedSimpArgs false

theorem len2 : ([] ++ numsB [1, -1]).length + 2 + (ByteArray.mk #[97, 98]).size ≤ 140737488355328 := by
  have : (ByteArray.mk #[97, 98]).size = 2 := rfl
  rw [this, List.nil_append, len_nums]
  simp
theorem len3 : ([] ++ numsB [1, -1] ++ textB ⟨#[97, 98]⟩).length ≤ 9223372036854775807 := by
  have : textB ⟨#[97, 98]⟩ = [0, 2, 97, 98] := by kernel_rfl
  rw [this, List.nil_append, List.length_append, len_nums]
  simp
set_option maxHeartbeats 400000 in
set_option maxRecDepth 100000 in
theorem awake_any (w : World) : Calls Try.prog 19 #[] w fun e w' => e = .returned (.bool true) ∧ Below w.heap.size w w' := by
  have H0 := Lib.hid (wrs_new w 30 (.inl rfl))
  obtain ⟨b, hb⟩ : ∃ b, Hid (w.heap.size = b) := ⟨_, Lib.hid rfl⟩
  obtain ⟨w1, hw1⟩ : ∃ w1, Hid (w.alloc (.cells #[.pointer none, .slice none 0 0, .bool false] 30) = w1) := ⟨_, Lib.hid rfl⟩
  rw [hb.out, hw1.out] at H0
  go_enter Try.func19, Try.ntmps19
  go_wp2_with fail
  rw [hw1.out, hb.out, show b + 1 = w1.heap.size by rw [← hw1.out, ← hb.out]; simp]
  refine (acc2 H0.out (below_alloc _ _) (fun r1 h1 hlt => nums_any b r1 [] false [1, -1] _ 2 2 _ h1 (rd_ints 2 (heap_alloc_new _ _) (by simp) rfl (by decide)) (fun _ o ho hm => by injection ho with ho; subst ho; exact absurd (hlt _ hm) (Nat.lt_irrefl _)) (by simp))).mono ?_
  rintro e w2 ⟨rfl, h2⟩
  have HC := Lib.hid (acc h2 (fun r1 h1 => text_any b r1 _ false ⟨#[97, 98]⟩ w2 h1 len2))
  clear h2
  go_wp2_with fail
  refine HC.out.mono ?_
  rintro e w3 ⟨rfl, h3⟩
  have hs : Hid (saysB ([] ++ numsB [1, -1] ++ textB ⟨#[97, 98]⟩) (false || !okN ((ByteArray.mk #[97, 98]).size : Nat)) = ⟨#[0, 0, 0, 0, 0, 0, 0, 1, 255, 255, 255, 255, 255, 255, 255, 255, 0, 2, 97, 98]⟩) := Lib.hid (by kernel_rfl)
  obtain ⟨r3, h31, h32⟩ := h3.out
  have hk3 := h3.keep
  have HC2 := Lib.hid (string_any b r3 _ _ w3 h31.f len3)
  rw [hs.out] at HC2
  clear h3 hs
  go_wp2_with fail
  refine HC2.out.mono ?_
  rintro e w4 ⟨rfl, h4, hk4⟩
  have hbad : Hid ((false || !okN ((ByteArray.mk #[97, 98]).size : Nat)) = false) := Lib.hid (by kernel_rfl)
  rw [hbad.out] at h4
  go_wp2_with fail
  refine (bad_any b r3 _ false w4 h4).mono ?_
  rintro e w5 ⟨rfl, rfl⟩
  go_wp2
  go_ret
  refine ⟨rfl, ?_⟩
  exact (hk3.below (Nat.le_refl _) (by simp)).trans (hk4.below hk3.size (fun x hx => by
    have := h32 x (by simpa using hx)
    simpa using this))
end Go.Proofs.Ytfpocddpnoighaa.Wr

/- wire: things as a law's argument; long; put. -/
namespace Go.Proofs.Ytfpocddpnoighaa.Wr
open Go.RowKit Go.Proofs.Ytfpocddpnoighaa.L Go.Proofs.Ytfpocddpnoighaa.O Go.Proofs.Ytfpocddpnoighaa.A Go.Proofs.Ytfpocddpnoighaa.S Go.Proofs.Ytfpocddpnoighaa.T Go.Proofs.Ytfpocddpnoighaa.E
set_option linter.unusedVariables false
set_option linter.unusedSimpArgs false

structure Th where
  k : Int
  n : Int
  s : ByteArray
def encTh (x : Th) : List Value := [.int .i64 x.k, .int .i64 x.n, .string x.s]
def goodTh (x : Th) : Prop := x.s.size ≤ 140737488351232 ∧ -9223372036854775808 ≤ x.n ∧ x.n ≤ 9223372036854775807
set_option maxRecDepth 100000 in
theorem opens_th (W : World) : Opens Try.prog W 32 encTh goodTh :=
  Opens.as (opens_struct (w := W) Try.underlying32 (by kernel_rfl)
      (opens_fc (off' := 1) rfl (by kernel_rfl) (opens_int Try.underlying3) (opens_fc (off' := 2) rfl (by kernel_rfl) (opens_int Try.underlying3) (opens_fc (off' := 3) rfl (by kernel_rfl) (opens_string Try.underlying9) (opens_f0 3)))))
    encTh goodTh (fun x => ⟨x.1, x.2.1, x.2.2.1⟩) (fun _ => rfl) (fun x h => by obtain ⟨_, h2, h3, _⟩ := h; exact ⟨h3, i64_range h2⟩)
theorem opens_ths (W : World) : Opens Try.prog W 22 (fun s : Sl Th => [.slice s.A s.n s.c]) (SlOk W 3 32 encTh goodTh) :=
  opens_slice Try.underlying22 (by kernel_rfl) (by omega) (by kernel_rfl) (opens_th W)
/-- things that came in. -/
structure Things (w : World) (A : Option Addr) (n : Nat) (l : List Th) : Prop where
  rd : RdE w A n 3 (l.map encTh)
  good : ∀ x ∈ l, goodTh x
theorem things_of {w : World} {s : Sl Th} (h : SlOk w 3 32 encTh goodTh s) : Things w s.A s.n s.xs := ⟨rdE_of h, fun x hx => (h.2.2.2.2.2.1 x hx).1⟩
theorem Things.len {w : World} {A : Option Addr} {n : Nat} {l : List Th} (h : Things w A n l) : l.length = n := by simpa using h.rd.1
theorem Things.below {w w1 : World} {A : Option Addr} {n : Nat} {l : List Th} (h : Things w A n l) (hb : Below w.heap.size w w1) : Things w1 A n l := ⟨h.rd.below hb, h.good⟩
theorem Things.at {w : World} {A : Option Addr} {n : Nat} {l : List Th} (h : Things w A n l) (i : Nat) (hi : i < n) : ∃ b o x, A = some ⟨b, o, none⟩ ∧ (∃ hl : i < l.length, l[i] = x) ∧ goodTh x ∧
    w.cell? ⟨b, o + i * 3, none⟩ = some (.int .i64 x.k) ∧ w.cell? ⟨b, o + i * 3 + 1, none⟩ = some (.int .i64 x.n) ∧ w.cell? ⟨b, o + i * 3 + 2, none⟩ = some (.string x.s) := by
  obtain ⟨b, o, hA, hl, hc⟩ := h.rd.at i hi
  exact ⟨b, o, l[i], hA, ⟨hl, rfl⟩, h.good _ (List.getElem_mem hl), hc 0 (by omega), hc 1 (by omega), hc 2 (by omega)⟩

/-- bytes of texts. -/
def tot : List Th → Nat
  | [] => 0
  | x :: l => x.s.size + tot l
theorem tot_app (a b : List Th) : tot (a ++ b) = tot a + tot b := by
  induction a with
  | nil => simp [tot]
  | cons x a ih => simp [tot, ih]; omega
/-- is one of the sums on the way more than is played? -/
def longB (l : List Th) : Bool := decide (100 < l.length) || decide (200000 < tot l)
theorem tot_take (l : List Th) (k : Nat) (h : k < l.length) : tot (l.take (k + 1)) = tot (l.take k) + (l[k]).s.size := by
  rw [List.take_succ_eq_append_getElem h, tot_app]
  simp [tot]
theorem tot_le (l : List Th) (k : Nat) : tot (l.take k) ≤ tot l := by
  have := tot_app (l.take k) (l.drop k)
  rw [List.take_append_drop] at this
  omega
set_option maxHeartbeats 1000000 in
theorem long_any (w : World) (A : Option Addr) (n c : Nat) (l : List Th) (h : Things w A n l) (r : Bool) (hr' : longB l = r) :
    Calls Try.prog 20 #[.slice A n c] w fun e w' => e = .returned (.bool r) ∧ Below w.heap.size w w' := by
  have hln := h.rd.2.1
  have hl := Lib.hid h.len
  have H := Lib.hid h
  have hr := Lib.hid hr'
  clear h hr'
  by_cases hbig : 100 < n
  · have e : Hid (r = true) := Lib.hid (by rw [← hr.out]; simp [longB, hl.out, hbig])
    go_enter Try.func20, Try.ntmps20
    go_wp2
    go_ret
    exact ⟨retb e.out, Below.refl _ _⟩
  · go_enter Try.func20, Try.ntmps20
    go_wp2
    go_loopw [3, 11] (fun t i wr => ∃ k m : Nat, k ≤ n ∧ t = .int .i64 m ∧ i = .int .i64 k ∧ Below w.heap.size w wr ∧ m ≤ 200000 ∧ Hid (m = tot (l.take k))) (fun _ i _ => n - (intOf i).toNat)
    case atStart => exact ⟨0, 0, by omega, rfl, rfl, Below.refl _ _, by omega, Lib.hid rfl⟩
    case round =>
      obtain ⟨k, m, hk, rfl, rfl, hb, hm, hsum⟩ := hrel
      by_cases hlt : k < n
      · obtain ⟨ab, ao, x, hA, ⟨hkl, hx⟩, hg, c0, c1, c2⟩ := (H.out.below hb).at k hlt
        subst hA
        obtain ⟨xk, xn, xs⟩ := x
        have hx' := Lib.hid hx
        have hg1 := hg.1
        clear hx hg
        dsimp only at c0 c1 c2 hg1
        have hstep : Hid (m + xs.size = tot (l.take (k + 1))) := Lib.hid (by rw [tot_take l k hkl, hx'.out, ← hsum.out])
        by_cases hbg : 200000 < m + xs.size
        · have e : Hid (r = true) := Lib.hid (by
            rw [← hr.out]
            have := tot_le l (k + 1)
            have h2 := hstep.out
            simp [longB]
            omega)
          have hbg' : (200000 : Int) < (m : Int) + (xs.size : Nat) := by omega
          go_wp2
          go_ret
          exact ⟨retb e.out, hb.trans ((below_alloc _ _).mono hb.size)⟩
        · go_wp2
          go_roundw
          case rel => exact ⟨k + 1, m + xs.size, by omega, by go_num, by go_num, hb.trans ((below_alloc _ _).mono hb.size), by omega, hstep⟩
          case measure => simp [intOf]; omega
      · have e : Hid (r = false) := Lib.hid (by
          rw [← hr.out]
          have h2 := hsum.out
          rw [List.take_of_length_le (by have := hl.out; omega)] at h2
          simp only [longB, Bool.or_eq_false_iff, decide_eq_false_iff_not]
          have := hl.out
          omega)
        go_wp2
        go_ret
        exact ⟨retbf e.out, hb⟩

def putB (x : Th) : List UInt8 := if x.k = 0 then [UInt8.ofNat (x.n % 256).toNat] else if x.k = 1 then [if x.n = 1 then 1 else 0] else if x.k = 2 then (if okN x.n then bigB x.n.toNat 2 else []) else if x.k = 3 then bigB (u64 x.n) 8 else if x.k = 4 then textB x.s else []
def putOk (x : Th) : Bool := if x.k = 2 then okN x.n else if x.k = 4 then okN (x.s.size : Nat) else true
set_option maxHeartbeats 2000000 in
set_option maxRecDepth 100000 in
theorem put_any (b : Nat) (r : Option Nat) (bs : List UInt8) (bad : Bool) (x : Th) (w : World) (h : Wr w b r bs bad) (hlen : bs.length + 10 + x.s.size ≤ 140737488355328) :
    Calls Try.prog 21 #[.pointer (some ⟨b, 0, none⟩), .agg #[.int .i64 x.k, .int .i64 x.n, .string x.s]] w fun e w' => e = .returned (.tuple #[]) ∧ Wrs w b (blks b r) (bs ++ putB x) (bad || !putOk x) w' := by
  obtain ⟨t, ht⟩ : ∃ t, Hid (putB x = t) := ⟨_, Lib.hid rfl⟩
  obtain ⟨q, hq⟩ : ∃ q, Hid ((bad || !putOk x) = q) := ⟨_, Lib.hid rfl⟩
  rw [ht.out, hq.out]
  obtain ⟨k, n, s⟩ := x
  dsimp only at hlen ⊢
  obtain ⟨w1, hw1⟩ : ∃ w1, Hid (w.alloc (.cells #[.int .i64 k, .int .i64 n, .string s] 32) = w1) := ⟨_, Lib.hid rfl⟩
  have H0 : Hid (Wrs w b (blks b r) bs bad w1) := Lib.hid (by rw [← hw1.out]; exact (Wrs.refl h).below (below_alloc _ _))
  have hsz : Hid (w.heap.size + 1 = w1.heap.size) := Lib.hid (by rw [← hw1.out]; simp)
  clear h
  have ht' := ht.out
  have hq' := hq.out
  simp only [putB, putOk] at ht' hq'
  clear ht hq
  have HT := Lib.hid ht'
  have HQ := Lib.hid hq'
  clear ht' hq'
  by_cases k0 : k = 0
  · subst k0
    have et : Hid (t = [UInt8.ofNat (n % 256).toNat]) := Lib.hid (by rw [← HT.out]; simp)
    have eq : Hid (q = bad) := Lib.hid (by rw [← HQ.out]; simp)
    clear HT HQ
    go_enter Try.func21, Try.ntmps21
    go_wp2_with fail
    rw [hw1.out, hsz.out]
    refine (acc2 H0.out (below_alloc _ _) (fun r1 h1 hlt => byte_any b r1 bs bad [UInt8.ofNat (n % 256).toNat] _ 1 1 _ h1 (rd_bytes 1 (heap_alloc_new _ _) (by simp [Lib.byteCells, UInt8.toNat_ofNat']; omega) rfl (by decide)) (fun _ o ho hm => by injection ho with ho; subst ho; exact absurd (hlt _ hm) (Nat.lt_irrefl _)) (by simp; omega))).mono ?_
    rintro e w2 ⟨rfl, hW2⟩
    go_wp2
    refine bodyPost_end (results_none rfl _ _ _) rfl ?_
    exact ⟨rfl, by rw [et.out, eq.out]; exact hW2⟩
  by_cases k1 : k = 1
  · subst k1
    have et : Hid (t = [if n = 1 then 1 else 0]) := Lib.hid (by rw [← HT.out]; simp)
    have eq : Hid (q = bad) := Lib.hid (by rw [← HQ.out]; simp)
    clear HT HQ
    by_cases n1 : n = 1
    · subst n1
      have HC := Lib.hid (acc H0.out (fun r1 h1 => bool_any b r1 bs bad true w1 h1 (by omega)))
      go_enter Try.func21, Try.ntmps21
      go_wp2_with fail
      rw [hw1.out]
      refine HC.out.mono ?_
      rintro e w2 ⟨rfl, hW2⟩
      go_wp2
      go_end0
      exact ⟨rfl, by rw [et.out, eq.out]; exact hW2⟩
    · have n1' : (n == 1) = false := by simpa using n1
      have N1 := Lib.hid n1
      clear n1
      have HC := Lib.hid (acc H0.out (fun r1 h1 => bool_any b r1 bs bad false w1 h1 (by omega)))
      go_enter Try.func21, Try.ntmps21
      go_wp2_with fail
      rw [hw1.out]
      refine HC.out.mono ?_
      rintro e w2 ⟨rfl, hW2⟩
      go_wp2
      go_end0
      simp only [Bool.false_eq_true, if_false] at hW2
      exact ⟨rfl, by rw [et.out, eq.out, if_neg N1.out]; exact hW2⟩
  by_cases k2 : k = 2
  · subst k2
    have et : Hid (t = if okN n then bigB n.toNat 2 else []) := Lib.hid (by rw [← HT.out]; simp)
    have eq : Hid (q = (bad || !okN n)) := Lib.hid (by rw [← HQ.out]; simp)
    clear HT HQ
    have HC := Lib.hid (acc H0.out (fun r1 h1 => count_any b r1 bs bad n w1 h1 (by omega)))
    go_enter Try.func21, Try.ntmps21
    go_wp2_with fail
    rw [hw1.out]
    refine HC.out.mono ?_
    rintro e w2 ⟨rfl, hW2⟩
    go_wp2
    go_end0
    exact ⟨rfl, by rw [et.out, eq.out]; exact hW2⟩
  by_cases k3 : k = 3
  · subst k3
    have et : Hid (t = bigB (u64 n) 8) := Lib.hid (by rw [← HT.out]; simp)
    have eq : Hid (q = bad) := Lib.hid (by rw [← HQ.out]; simp)
    clear HT HQ
    go_enter Try.func21, Try.ntmps21
    go_wp2_with fail
    rw [hw1.out, hsz.out]
    refine (acc2 H0.out (below_alloc _ _) (fun r1 h1 hlt => nums_any b r1 bs bad [n] _ 1 1 _ h1 (rd_ints 1 (heap_alloc_new _ _) rfl rfl (by decide)) (fun _ o ho hm => by injection ho with ho; subst ho; exact absurd (hlt _ hm) (Nat.lt_irrefl _)) (by simp; omega))).mono ?_
    rintro e w2 ⟨rfl, hW2⟩
    go_wp2
    go_end0
    exact ⟨rfl, by rw [et.out, eq.out]; simpa [numsB] using hW2⟩
  by_cases k4 : k = 4
  · subst k4
    have et : Hid (t = textB s) := Lib.hid (by rw [← HT.out]; simp)
    have eq : Hid (q = (bad || !okN (s.size : Nat))) := Lib.hid (by rw [← HQ.out]; simp)
    clear HT HQ
    have HC := Lib.hid (acc H0.out (fun r1 h1 => text_any b r1 bs bad s w1 h1 (by omega)))
    go_enter Try.func21, Try.ntmps21
    go_wp2_with fail
    rw [hw1.out]
    refine HC.out.mono ?_
    rintro e w2 ⟨rfl, hW2⟩
    go_wp2
    go_end0
    exact ⟨rfl, by rw [et.out, eq.out]; exact hW2⟩
  · have et : Hid (t = []) := Lib.hid (by rw [← HT.out]; simp [k0, k1, k2, k3, k4])
    have eq : Hid (q = bad) := Lib.hid (by rw [← HQ.out]; simp [k0, k1, k2, k3, k4])
    clear HT HQ
    go_enter Try.func21, Try.ntmps21
    go_wp2
    rw [hw1.out]
    go_end0
    exact ⟨rfl, by rw [et.out, eq.out]; simpa using H0.out⟩
end Go.Proofs.Ytfpocddpnoighaa.Wr

/- wire: what is put, in plain lists; several writers side by side. -/
namespace Go.Proofs.Ytfpocddpnoighaa.Wr
open Go.RowKit Go.Proofs.Ytfpocddpnoighaa.L Go.Proofs.Ytfpocddpnoighaa.O Go.Proofs.Ytfpocddpnoighaa.A Go.Proofs.Ytfpocddpnoighaa.S Go.Proofs.Ytfpocddpnoighaa.T Go.Proofs.Ytfpocddpnoighaa.E
set_option linter.unusedVariables false
set_option linter.unusedSimpArgs false

def wireB (l : List Th) : List UInt8 := l.flatMap putB
def wireBad (l : List Th) : Bool := l.any fun x => !putOk x
theorem wireB_take (l : List Th) (k : Nat) (h : k < l.length) : wireB (l.take (k + 1)) = wireB (l.take k) ++ putB l[k] := by
  rw [List.take_succ_eq_append_getElem h]; simp only [wireB, List.flatMap_append, List.flatMap_cons, List.flatMap_nil, List.append_nil]
theorem wireBad_take (l : List Th) (k : Nat) (h : k < l.length) : wireBad (l.take (k + 1)) = (wireBad (l.take k) || !putOk l[k]) := by
  rw [List.take_succ_eq_append_getElem h]; simp only [wireBad, List.any_append, List.any_cons, List.any_nil, Bool.or_false]
theorem len_text (s : ByteArray) : (textB s).length ≤ 2 + s.size := by
  unfold textB
  split
  · simp [len_big]
  · simp
theorem len_put (x : Th) : (putB x).length ≤ 8 + x.s.size := by
  unfold putB
  have := len_text x.s
  split
  · simp; omega
  split
  · simp; omega
  split
  · split <;> simp [len_big]; omega
  split
  · simp [len_big]
  split
  · omega
  · simp
theorem len_wire (l : List Th) : (wireB l).length ≤ 8 * l.length + tot l := by
  induction l with
  | nil => simp [wireB, tot]
  | cons x l ih =>
    have h1 := len_put x
    have e1 : wireB (x :: l) = putB x ++ wireB l := by simp [wireB]
    have e2 : tot (x :: l) = x.s.size + tot l := rfl
    rw [e1, e2, List.length_append, List.length_cons]
    omega
theorem len_wire_take (l : List Th) (k : Nat) (hk : k < l.length) (h1 : l.length ≤ 100) (h2 : tot l ≤ 200000) : (wireB (l.take k)).length + 10 + l[k].s.size ≤ 201000 := by
  have h3 := len_wire (l.take k)
  have h4 := tot_take l k hk
  have h5 := tot_le l (k + 1)
  simp only [List.length_take] at h3
  omega

/-! ### writers side by side -/
def Apart (b : Nat) (r : Option Nat) (b' : Nat) (r' : Option Nat) : Prop := ∀ k, k ∈ blks b r → k ∉ blks b' r'
theorem Apart.symm {b b' : Nat} {r r' : Option Nat} (h : Apart b r b' r') : Apart b' r' b r := fun k h1 h2 => h k h2 h1
theorem Wr.lts {w : World} {b : Nat} {r : Option Nat} {bs : List UInt8} {bad : Bool} (h : Wr w b r bs bad) : ∀ k ∈ blks b r, k < w.heap.size := fun k hk => by
  rcases mem_blks.1 hk with rfl | hk
  · exact h.lt.1
  · exact h.lt.2 k hk
theorem Wr.other {w w' : World} {S : List Nat} {b : Nat} {r : Option Nat} {bs : List UInt8} {bad : Bool} (h : Wr w b r bs bad) (hk : Keep S w w') (ha : ∀ k ∈ blks b r, k ∉ S) : Wr w' b r bs bad :=
  h.keep hk (ha b (mem_blks.2 (.inl rfl))) fun k hr => ha k (mem_blks.2 (.inr hr))
theorem apart_new {w : World} {b b' : Nat} {r r2 r' : Option Nat} (h : Apart b r b' r') (hl : ∀ k ∈ blks b' r', k < w.heap.size) (h2 : ∀ k, r2 = some k → k ∈ blks b r ∨ w.heap.size ≤ k) : Apart b r2 b' r' := by
  intro k hk hk'
  rcases mem_blks.1 hk with rfl | hk
  · exact h k (mem_blks.2 (.inl rfl)) hk'
  · rcases h2 k hk with h3 | h3
    · exact h k h3 hk'
    · have := hl k hk'; omega
/-- three writers, of the call's own; and blocks of other things. -/
structure Tri (w0 W : World) (pr : List (Nat × Obj)) (bv bw bx : Nat) (sv sw sx : List UInt8) (fv fw fx : Bool) : Prop where
  low : Below w0.heap.size w0 W
  out : ∃ rv rw rx, Wr W bv rv sv fv ∧ Wr W bw rw sw fw ∧ Wr W bx rx sx fx ∧ Apart bv rv bw rw ∧ Apart bv rv bx rx ∧ Apart bw rw bx rx ∧ (∀ k, k ∈ blks bv rv ∨ k ∈ blks bw rw ∨ k ∈ blks bx rx → w0.heap.size ≤ k) ∧
    ∀ p ∈ pr, W.heap[p.1]? = some p.2 ∧ p.1 ∉ blks bv rv ∧ p.1 ∉ blks bw rw ∧ p.1 ∉ blks bx rx
theorem Tri.below {w0 W W' : World} {pr : List (Nat × Obj)} {bv bw bx : Nat} {sv sw sx : List UInt8} {fv fw fx : Bool} (h : Tri w0 W pr bv bw bx sv sw sx fv fw fx) (hb : Below W.heap.size W W') : Tri w0 W' pr bv bw bx sv sw sx fv fw fx := by
  obtain ⟨rv, rw, rx, h1, h2, h3, a1, a2, a3, hl, hp⟩ := h.out
  exact ⟨below2 h.low hb, rv, rw, rx, h1.below hb, h2.below hb, h3.below hb, a1, a2, a3, hl, fun p hm => ⟨keep_block (.of_below (S := []) hb) (hp p hm).1 (by simp), (hp p hm).2⟩⟩
theorem Tri.lay {w0 W : World} {bv bw bx : Nat} {sv sw sx : List UInt8} {fv fw fx : Bool} (h : Tri w0 W [] bv bw bx sv sw sx fv fw fx) (o : Obj) : Tri w0 (W.alloc o) [(W.heap.size, o)] bv bw bx sv sw sx fv fw fx := by
  obtain ⟨rv, rw, rx, h1, h2, h3, a1, a2, a3, hl, hp⟩ := h.out
  have hb := below_alloc W o
  refine ⟨below2 h.low hb, rv, rw, rx, h1.below hb, h2.below hb, h3.below hb, a1, a2, a3, hl, fun p hm => ?_⟩
  obtain rfl : p = (W.heap.size, o) := by simpa using hm
  exact ⟨heap_alloc_new _ _, fun hk => Nat.lt_irrefl _ (h1.lts _ hk), fun hk => Nat.lt_irrefl _ (h2.lts _ hk), fun hk => Nat.lt_irrefl _ (h3.lts _ hk)⟩
theorem Tri.drop {w0 W : World} {pr : List (Nat × Obj)} {bv bw bx : Nat} {sv sw sx : List UInt8} {fv fw fx : Bool} (h : Tri w0 W pr bv bw bx sv sw sx fv fw fx) : Tri w0 W [] bv bw bx sv sw sx fv fw fx := by
  obtain ⟨rv, rw, rx, h1, h2, h3, a1, a2, a3, hl, hp⟩ := h.out
  exact ⟨h.low, rv, rw, rx, h1, h2, h3, a1, a2, a3, hl, by simp⟩
theorem Tri.got {w0 W : World} {g : Nat} {o : Obj} {bv bw bx : Nat} {sv sw sx : List UInt8} {fv fw fx : Bool} (h : Tri w0 W [(g, o)] bv bw bx sv sw sx fv fw fx) : W.heap[g]? = some o := by
  obtain ⟨rv, rw, rx, h1, h2, h3, a1, a2, a3, hl, hp⟩ := h.out
  exact (hp (g, o) (by simp)).1
theorem new_lt {w0 W : World} {b : Nat} {r r2 : Option Nat} (hs : w0.heap.size ≤ W.heap.size) (hl : ∀ k ∈ blks b r, w0.heap.size ≤ k) (h2 : ∀ k, r2 = some k → k ∈ blks b r ∨ W.heap.size ≤ k) : ∀ k ∈ blks b r2, w0.heap.size ≤ k := fun k hk => by
  rcases mem_blks.1 hk with rfl | hk
  · exact hl k (mem_blks.2 (.inl rfl))
  · rcases h2 k hk with h3 | h3
    · exact hl k h3
    · omega
theorem Tri.v {w0 W : World} {pr : List (Nat × Obj)} {bv bw bx : Nat} {sv sw sx s' : List UInt8} {fv fw fx f' : Bool} {fn : FuncId} {args : Array Value} {E : Ending → Prop} (h : Tri w0 W pr bv bw bx sv sw sx fv fw fx)
    (c : ∀ r, Wr W bv r sv fv → Calls Try.prog fn args W fun e w' => E e ∧ Wrs W bv (blks bv r) s' f' w') : Calls Try.prog fn args W fun e w' => E e ∧ Tri w0 w' pr bv bw bx s' sw sx f' fw fx := by
  obtain ⟨rv, rw, rx, h1, h2, h3, a1, a2, a3, hl, hp⟩ := h.out
  refine (c rv h1).mono fun e w' ⟨he, hw⟩ => ⟨he, ?_⟩
  obtain ⟨r2, k1, k2⟩ := hw.out
  refine ⟨h.low.trans (hw.keep.below h.low.size fun x hx => hl x (.inl hx)), r2, rw, rx, k1, h2.other hw.keep a1.symm, h3.other hw.keep a2.symm, apart_new a1 h2.lts k2, apart_new a2 h3.lts k2, a3, fun k hk => ?_, fun p hm => ?_⟩
  · rcases hk with hk | hk
    · exact new_lt h.low.size (fun x hx => hl x (.inl hx)) k2 k hk
    · exact hl k (.inr hk)
  · obtain ⟨p1, p2, p3, p4⟩ := hp p hm
    refine ⟨keep_block hw.keep p1 p2, fun hk => ?_, p3, p4⟩
    have hlt := (Array.getElem?_eq_some_iff.1 p1).1
    rcases mem_blks.1 hk with e | hk
    · exact p2 (mem_blks.2 (.inl e))
    · rcases k2 _ hk with h3 | h3
      · exact p2 h3
      · omega
theorem Tri.swap {w0 W : World} {pr : List (Nat × Obj)} {bv bw bx : Nat} {sv sw sx : List UInt8} {fv fw fx : Bool} (h : Tri w0 W pr bv bw bx sv sw sx fv fw fx) : Tri w0 W pr bw bx bv sw sx sv fw fx fv := by
  obtain ⟨rv, rw, rx, h1, h2, h3, a1, a2, a3, hl, hp⟩ := h.out
  exact ⟨h.low, rw, rx, rv, h2, h3, h1, a3, a1.symm, a2.symm, fun k hk => hl k (by rcases hk with hk | hk | hk; exact .inr (.inl hk); exact .inr (.inr hk); exact .inl hk), fun p hm => ⟨(hp p hm).1, (hp p hm).2.2.1, (hp p hm).2.2.2, (hp p hm).2.1⟩⟩
theorem Tri.w {w0 W : World} {pr : List (Nat × Obj)} {bv bw bx : Nat} {sv sw sx s' : List UInt8} {fv fw fx f' : Bool} {fn : FuncId} {args : Array Value} {E : Ending → Prop} (h : Tri w0 W pr bv bw bx sv sw sx fv fw fx)
    (c : ∀ r, Wr W bw r sw fw → Calls Try.prog fn args W fun e w' => E e ∧ Wrs W bw (blks bw r) s' f' w') : Calls Try.prog fn args W fun e w' => E e ∧ Tri w0 w' pr bv bw bx sv s' sx fv f' fx :=
  (h.swap.v c).mono fun e w' ⟨he, hw⟩ => ⟨he, hw.swap.swap⟩
theorem Tri.x {w0 W : World} {pr : List (Nat × Obj)} {bv bw bx : Nat} {sv sw sx s' : List UInt8} {fv fw fx f' : Bool} {fn : FuncId} {args : Array Value} {E : Ending → Prop} (h : Tri w0 W pr bv bw bx sv sw sx fv fw fx)
    (c : ∀ r, Wr W bx r sx fx → Calls Try.prog fn args W fun e w' => E e ∧ Wrs W bx (blks bx r) s' f' w') : Calls Try.prog fn args W fun e w' => E e ∧ Tri w0 w' pr bv bw bx sv sw s' fv fw f' :=
  (h.swap.swap.v c).mono fun e w' ⟨he, hw⟩ => ⟨he, hw.swap⟩
/-- the same, read: nothing is written any more. -/
structure TriF (w0 W : World) (bv bw bx : Nat) (sv sw sx : List UInt8) (fv fw fx : Bool) : Prop where
  low : Below w0.heap.size w0 W
  out : ∃ rv rw rx, WrF W bv rv sv fv ∧ WrF W bw rw sw fw ∧ WrF W bx rx sx fx ∧ Apart bv rv bw rw ∧ Apart bv rv bx rx ∧ Apart bw rw bx rx ∧ ∀ k, k ∈ blks bv rv ∨ k ∈ blks bw rw ∨ k ∈ blks bx rx → w0.heap.size ≤ k
theorem Tri.f {w0 W : World} {pr : List (Nat × Obj)} {bv bw bx : Nat} {sv sw sx : List UInt8} {fv fw fx : Bool} (h : Tri w0 W pr bv bw bx sv sw sx fv fw fx) : TriF w0 W bv bw bx sv sw sx fv fw fx := by
  obtain ⟨rv, rw, rx, h1, h2, h3, a1, a2, a3, hl, hp⟩ := h.out
  exact ⟨h.low, rv, rw, rx, h1.f, h2.f, h3.f, a1, a2, a3, hl⟩
theorem WrF.other {w w' : World} {S : List Nat} {b : Nat} {r : Option Nat} {bs : List UInt8} {bad : Bool} (h : WrF w b r bs bad) (hk : Keep S w w') (ha : ∀ k ∈ blks b r, k ∉ S) : WrF w' b r bs bad :=
  h.keep hk (ha b (mem_blks.2 (.inl rfl))) fun k hr => ha k (mem_blks.2 (.inr hr))
theorem sub_blks {b k : Nat} {r : Option Nat} (h : k ∈ r.toList) : k ∈ blks b r := mem_blks.2 (.inr (by simpa using h))
theorem TriF.bad {w0 W : World} {bv bw bx : Nat} {sv sw sx : List UInt8} {fv fw fx : Bool} (h : TriF w0 W bv bw bx sv sw sx fv fw fx) : Calls Try.prog 22 #[.pointer (some ⟨bv, 0, none⟩)] W fun e w' => e = .returned (.bool fv) ∧ W = w' := by
  obtain ⟨rv, rw, rx, h1, h2, h3, a1, a2, a3, hl⟩ := h.out
  exact bad_any bv rv sv fv W h1
theorem TriF.swap {w0 W : World} {bv bw bx : Nat} {sv sw sx : List UInt8} {fv fw fx : Bool} (h : TriF w0 W bv bw bx sv sw sx fv fw fx) : TriF w0 W bw bx bv sw sx sv fw fx fv := by
  obtain ⟨rv, rw, rx, h1, h2, h3, a1, a2, a3, hl⟩ := h.out
  exact ⟨h.low, rw, rx, rv, h2, h3, h1, a3, a1.symm, a2.symm, fun k hk => hl k (by rcases hk with hk | hk | hk; exact .inr (.inl hk); exact .inr (.inr hk); exact .inl hk)⟩
theorem TriF.str {w0 W : World} {bv bw bx : Nat} {sv sw sx : List UInt8} {fv fw fx : Bool} (h : TriF w0 W bv bw bx sv sw sx fv fw fx) (hlen : sv.length ≤ 9223372036854775807) (s : ByteArray) (hs : saysB sv fv = s) :
    Calls Try.prog 23 #[.pointer (some ⟨bv, 0, none⟩)] W fun e w' => e = .returned (.string s) ∧ TriF w0 w' bv bw bx sv sw sx fv fw fx := by
  obtain ⟨rv, rw, rx, h1, h2, h3, a1, a2, a3, hl⟩ := h.out
  subst hs
  refine (string_any bv rv sv fv W h1 hlen).mono fun e w' ⟨he, hw, hk⟩ => ⟨he, ?_⟩
  exact ⟨h.low.trans (hk.below h.low.size fun x hx => hl x (.inl (sub_blks hx))), rv, rw, rx, hw, h2.other hk fun k hk1 hk2 => a1 k (sub_blks hk2) hk1, h3.other hk fun k hk1 hk2 => a2 k (sub_blks hk2) hk1, a1, a2, a3, hl⟩
/-- three new ones. -/
theorem tri_new (w : World) (T : TypeId) (hT : WT T) : Tri w (((w.alloc (.cells #[.pointer none, .slice none 0 0, .bool false] T)).alloc (.cells #[.pointer none, .slice none 0 0, .bool false] T)).alloc (.cells #[.pointer none, .slice none 0 0, .bool false] T)) [] w.heap.size (w.heap.size + 1) (w.heap.size + 1 + 1) [] [] [] false false false := by
  have h1 := wr_new w T hT
  have h2 := wr_new (w.alloc (.cells #[.pointer none, .slice none 0 0, .bool false] T)) T hT
  have h3 := wr_new ((w.alloc (.cells #[.pointer none, .slice none 0 0, .bool false] T)).alloc (.cells #[.pointer none, .slice none 0 0, .bool false] T)) T hT
  simp only [World.size_alloc] at h2 h3
  refine ⟨below_new (below_new (below_alloc _ _) _) _, none, none, none, (h1.below (below_alloc _ _)).below (below_alloc _ _), h2.below (below_alloc _ _), h3, ?_, ?_, ?_, ?_, by simp⟩
  · intro k h1 h2; rw [mem_blks] at h1 h2; simp at h1 h2; omega
  · intro k h1 h2; rw [mem_blks] at h1 h2; simp at h1 h2; omega
  · intro k h1 h2; rw [mem_blks] at h1 h2; simp at h1 h2; omega
  · intro k hk; simp only [mem_blks] at hk; simp at hk; omega
end Go.Proofs.Ytfpocddpnoighaa.Wr

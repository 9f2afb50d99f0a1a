/- wire: the writer's methods. -/
import Derived.Test.YtfpocddpnoighaaWrA
namespace Go.Proofs.Ytfpocddpnoighaa.Wr
open Go.RowKit Go.Proofs.Ytfpocddpnoighaa.L Go.Proofs.Ytfpocddpnoighaa.A Go.Proofs.Ytfpocddpnoighaa.S Go.Proofs.Ytfpocddpnoighaa.T
set_option linter.unusedVariables false
set_option linter.unusedSimpArgs false

theorem Rd.keep0 {S : List Nat} {w w1 : World} {A : Option Addr} {n : Nat} {xs : List Value} (h : Rd w A n xs) (hb : Keep S w w1) (hs : 0 < n → ∀ o, A = some o → o.block ∉ S) : Rd w1 A n xs :=
  ⟨h.1, h.2.1, fun hn => by
    obtain ⟨b, o, e, hc⟩ := h.2.2 hn
    refine ⟨b, o, e, fun j hj => ?_⟩
    have h0 := hc j hj
    have hx : j < xs.length := by have := h.1; omega
    rw [List.getElem?_eq_getElem hx] at h0 ⊢
    exact (hb.cell (World.block_lt_of_cell? w _ h0) (hs hn ⟨b, o, none⟩ e)).trans h0⟩
theorem take_snoc {α : Type} (l : List α) (k : Nat) (h : k < l.length) : l.take k ++ [l[k]] = l.take (k + 1) := by rw [List.take_succ_eq_append_getElem h]

set_option maxHeartbeats 4000000 in
set_option maxRecDepth 100000 in
theorem byte_any (b : Nat) (r : Option Nat) (bs : List UInt8) (bad : Bool) (l : List UInt8) (A : Option Addr) (n c : Nat) (w : World) (h : Wr w b r bs bad) (hr : Rd w A n (Lib.byteCells l)) (hA : 0 < n → ∀ o, A = some o → o.block ∉ blks b r) (hlen : bs.length + l.length ≤ 140737488355328) :
    Calls Try.prog 78 #[.pointer (some ⟨b, 0, none⟩), .slice A n c] w fun e w' => e = .returned (.tuple #[]) ∧ Wrs w b (blks b r) (bs ++ l) bad w' := by
  have hln := hr.2.1
  have HR := Lib.hid hr
  have HL : Hid (l.length = n) := Lib.hid (by simpa [Lib.byteCells] using hr.len)
  have HA := Lib.hid hA
  have H0 := Lib.hid (Wrs.refl h)
  have hlen := Lib.hid hlen
  clear h hr hA
  go_enter Try.func78, Try.ntmps78
  go_wp2
  go_loopw [8] (fun i wr => ∃ k : Nat, k ≤ n ∧ i = .int .i64 k ∧ Wrs w b (blks b r) (bs ++ l.take k) bad wr) (fun i _ => n - (intOf i).toNat)
  case atStart => exact ⟨0, by omega, rfl, by simpa using H0.out⟩
  case round =>
    obtain ⟨k, hk, rfl, hW⟩ := hrel
    by_cases hlt : k < n
    · have hrk := Rd.keep0 HR.out hW.keep HA.out
      obtain ⟨ab, ao, hAe, hc⟩ := hrk.2.2 (by omega)
      subst hAe
      have hkl : k < l.length := by have := HL.out; omega
      obtain ⟨x, hx⟩ : ∃ x, Hid (x = l[k]) := ⟨_, Lib.hid rfl⟩
      have c0 := hc k hlt
      rw [Lib.byteCells, List.getElem?_map, List.getElem?_eq_getElem hkl, ← hx.out] at c0
      simp only [Option.map_some] at c0
      have HC := Lib.hid (acc hW (fun r1 h1 => write_byte b r1 _ bad x wr h1 (by have := hlen.out; simp; omega)))
      clear hc hrk hW
      go_wp2_with fail
      refine HC.out.mono ?_
      rintro e w1 ⟨rfl, hW1⟩
      go_wp2
      go_roundw
      case rel => exact ⟨k + 1, by omega, by go_num, by rw [← take_snoc l k hkl, ← hx.out, ← List.append_assoc]; exact hW1⟩
      case measure => simp [intOf]; omega
    · have hkn : n = k := by omega
      have hres : Hid (Wrs w b (blks b r) (bs ++ l) bad wr) := Lib.hid (by
        rw [List.take_of_length_le (by have := HL.out; omega)] at hW; exact hW)
      go_wp2
      go_end0
      exact ⟨rfl, hres.out⟩

def okN (n : Int) : Bool := decide (0 ≤ n) && decide (n ≤ 65535)
theorem wrs_bad {w : World} {b : Nat} {r : Option Nat} {bs : List UInt8} {bad : Bool} (h : Wr w b r bs bad) (bad' : Bool) : Wrs w b (blks b r) bs bad' (w.setCell ⟨b, 2, none⟩ (.bool bad')) := by
  obtain ⟨T, p, v, hT, hb, hp, ho, hr⟩ := h.out
  refine ⟨⟨r, ⟨⟨T, p, v, hT, heap_setCell_at w b 2 _ _ _ _ hb, hp, ?_, hr⟩, h.ne, h.nil⟩, fun k hk => .inl (mem_blks.2 (.inr hk))⟩, (Keep.refl _ _).setCell (p := ⟨b, 2, none⟩) (.inl (mem_blks.2 (.inl rfl))) _, .inl (mem_blks.2 (.inl rfl))⟩
  exact ho.kept (row := some b) ⟨rfl, rfl, rfl, by simp [World.setCell], fun k _ hk => Below.heap_setCell _ _ _ _ (fun e => hk (by simp [e]))⟩ (.inr (by rw [hr]; exact h.ne))
theorem Wr.flag {w : World} {b : Nat} {r : Option Nat} {bs : List UInt8} {bad : Bool} (h : Wr w b r bs bad) : w.cell? ⟨b, 2, none⟩ = some (.bool bad) ∧ w.frozen? ⟨b, 2, none⟩ = false := by
  obtain ⟨T, p, v, hT, hb, hp, ho, hr⟩ := h.out
  exact ⟨by rw [cell_of_row _ _ _ _ _ _ hb]; rfl, by simp [World.frozen?, hb]⟩
set_option maxHeartbeats 4000000 in
set_option maxRecDepth 100000 in
theorem fits_any (b : Nat) (r : Option Nat) (bs : List UInt8) (bad : Bool) (n : Int) (w : World) (h : Wr w b r bs bad) :
    Calls Try.prog 123 #[.pointer (some ⟨b, 0, none⟩), .int .i64 n] w fun e w' => e = .returned (.bool (okN n)) ∧ Wrs w b (blks b r) bs (bad || !okN n) w' := by
  obtain ⟨c2, f2⟩ := h.flag
  have HT := Lib.hid (wrs_bad h true)
  have HF := Lib.hid (wrs_bad h false)
  clear h
  cases bad
  · by_cases h0 : n < 0
    · have hk : Hid (okN n = false) := Lib.hid (by simp [okN]; omega)
      rw [hk.out]
      have h1 : ¬ 0 ≤ n := by omega
      go_enter Try.func123, Try.ntmps123
      go_wp2
      go_ret
      exact ⟨rfl, HT.out⟩
    · by_cases h9 : 65535 < n
      · have hk : Hid (okN n = false) := Lib.hid (by simp [okN]; omega)
        rw [hk.out]
        have h1 : 0 ≤ n := by omega
        have h2 : ¬ n ≤ 65535 := by omega
        go_enter Try.func123, Try.ntmps123
        go_wp2
        go_ret
        exact ⟨rfl, HT.out⟩
      · have hk : Hid (okN n = true) := Lib.hid (by simp [okN]; omega)
        rw [hk.out]
        have h1 : 0 ≤ n := by omega
        have h2 : n ≤ 65535 := by omega
        go_enter Try.func123, Try.ntmps123
        go_wp2
        go_ret
        exact ⟨rfl, HF.out⟩
  · obtain ⟨k, hk⟩ : ∃ k, Hid (okN n = k) := ⟨_, Lib.hid rfl⟩
    rw [hk.out, Bool.true_or]
    by_cases h1 : 0 ≤ n
    · by_cases h2 : n ≤ 65535
      · have hkt : Hid (k = true) := Lib.hid (by rw [← hk.out]; simp [okN]; omega)
        go_enter Try.func123, Try.ntmps123
        go_wp2
        go_ret
        exact ⟨retb hkt.out, HT.out⟩
      · have hkf : Hid (k = false) := Lib.hid (by rw [← hk.out]; simp [okN]; omega)
        go_enter Try.func123, Try.ntmps123
        go_wp2
        go_ret
        exact ⟨retbf hkf.out, HT.out⟩
    · have hkf : Hid (k = false) := Lib.hid (by rw [← hk.out]; simp [okN]; omega)
      go_enter Try.func123, Try.ntmps123
      go_wp2
      go_ret
      exact ⟨retbf hkf.out, HT.out⟩
/-- a contract, said since w0, behind blocks that were laid. -/
theorem acc2 {w0 w w1 : World} {b : Nat} {S : List Nat} {bs bs' : List UInt8} {bad bad' : Bool} {fn : FuncId} {args : Array Value} {E : Ending → Prop} (h : Wrs w0 b S bs bad w) (hb : Below w.heap.size w w1)
    (c : ∀ r, Wr w1 b r bs bad → (∀ k, k ∈ blks b r → k < w.heap.size) → Calls Try.prog fn args w1 fun e w' => E e ∧ Wrs w1 b (blks b r) bs' bad' w') : Calls Try.prog fn args w1 fun e w' => E e ∧ Wrs w0 b S bs' bad' w' := by
  obtain ⟨r, h1, h2⟩ := h.out
  exact (c r (h1.below hb) (fun k hk => by rcases mem_blks.1 hk with rfl | hk; exact h1.lt.1; exact h1.lt.2 k hk)).mono fun e w' ⟨he, hw⟩ => ⟨he, Wrs.step (h.keep.trans (.of_below hb)) h.own h2 hw⟩
theorem rd_bytes {w : World} {g : Nat} {cs : Array Value} {t : TypeId} {fr : Nat × Nat} {l : List UInt8} (n : Nat) (h : w.heap[g]? = some (.cells cs t fr)) (hl : cs = (Lib.byteCells l).toArray) (hn : l.length = n) (hm : n ≤ 9223372036854775807) : Rd w (some ⟨g, 0, none⟩) n (Lib.byteCells l) := by
  subst hl
  exact rd_block h (by simpa [Lib.byteCells] using hn) hm
theorem rd_ints {w : World} {g : Nat} {cs : Array Value} {t : TypeId} {fr : Nat × Nat} {l : List Int} (n : Nat) (h : w.heap[g]? = some (.cells cs t fr)) (hl : cs = (l.map (Value.int .i64)).toArray) (hn : l.length = n) (hm : n ≤ 9223372036854775807) : Rd w (some ⟨g, 0, none⟩) n (l.map (Value.int .i64)) := by
  subst hl
  exact rd_block h (by simpa using hn) hm
/-- n's lowest bytes, the highest first. -/
def bigB (n size : Nat) : List UInt8 := (List.range size).map fun j => UInt8.ofNat (n / 256 ^ (size - 1 - j) % 256)
theorem big2 (m : Nat) (h : m ≤ 65535) : (Lib.byteCells (bigB m 2)).toArray = #[.int .u8 ((m : Int) / 256), .int .u8 ((m : Int) % 256)] := by
  have e1 : (m / 256 % 256 : Nat) = m / 256 := by omega
  simp [Lib.byteCells, bigB, List.range_succ, UInt8.toNat_ofNat']
  omega
set_option maxHeartbeats 4000000 in
set_option maxRecDepth 100000 in
theorem count_any (b : Nat) (r : Option Nat) (bs : List UInt8) (bad : Bool) (n : Int) (w : World) (h : Wr w b r bs bad) (hlen : bs.length + 2 ≤ 140737488355328) :
    Calls Try.prog 80 #[.pointer (some ⟨b, 0, none⟩), .int .i64 n] w fun e w' => e = .returned (.tuple #[]) ∧ Wrs w b (blks b r) (bs ++ if okN n then bigB n.toNat 2 else []) (bad || !okN n) w' := by
  have HC := Lib.hid (fits_any b r bs bad n w h)
  obtain ⟨q, hq⟩ : ∃ q, Hid ((bad || !okN n) = q) := ⟨_, Lib.hid rfl⟩
  rw [hq.out] at HC ⊢
  clear h
  cases hk : okN n
  · rw [hk] at HC
    go_enter Try.func80, Try.ntmps80
    go_wp2_with fail
    refine HC.out.mono ?_
    rintro e w1 ⟨rfl, hW⟩
    go_wp2
    go_end0
    exact ⟨rfl, by simpa using hW⟩
  · rw [hk] at HC
    obtain ⟨m, rfl, hm⟩ : ∃ m : Nat, n = m ∧ m ≤ 65535 := ⟨n.toNat, by simp [okN] at hk; omega, by simp [okN] at hk; omega⟩
    go_enter Try.func80, Try.ntmps80
    go_wp2_with fail
    refine HC.out.mono ?_
    rintro e w1 ⟨rfl, hW⟩
    go_wp2_with fail
    refine (acc2 hW (below_alloc _ _) (fun r1 h1 hlt => byte_any b r1 bs q (bigB m 2) _ 2 2 _ h1 (rd_bytes 2 (heap_alloc_new _ _) (big2 m hm).symm (by simp [bigB]) (by decide)) (fun _ o ho hm => by injection ho with ho; subst ho; exact absurd (hlt _ hm) (Nat.lt_irrefl _)) (by simp [bigB]; omega))).mono ?_
    rintro e w2 ⟨rfl, hW2⟩
    go_wp2
    go_end0
    exact ⟨rfl, by simpa using hW2⟩
/-- the bytes of numbers. -/
def u64 (n : Int) : Nat := (n % 18446744073709551616).toNat
def numsB (l : List Int) : List UInt8 := l.flatMap fun n => bigB (u64 n) 8
theorem u64_wrap (x : Int) : IntKind.u64.wrap x = (u64 x : Int) := by
  rw [IntKind.wrap_u64]; unfold u64; omega
theorem len_nums (l : List Int) : (numsB l).length = l.length * 8 := by
  induction l with
  | nil => rfl
  | cons x l ih => simp only [numsB, List.flatMap_cons, List.length_append] at ih ⊢; rw [ih]; simp [bigB]; omega
theorem len_big (n s : Nat) : (bigB n s).length = s := by simp [bigB]
theorem big_at (x : Int) (j : Nat) (hj : j < 8) (y : UInt8) (hy : y = (bigB (u64 x) 8)[j]'(by simp [bigB]; exact hj)) : IntKind.u64.wrap x / 2 ^ (56 - 8 * j) % 256 = ((y.toNat : Nat) : Int) := by
  subst hy
  rw [u64_wrap]
  have e : (2 : Int) ^ (56 - 8 * j) = ((256 ^ (7 - j) : Nat) : Int) := by
    have : (256 : Nat) ^ (7 - j) = 2 ^ (56 - 8 * j) := by
      rw [show (256 : Nat) = 2 ^ 8 from rfl, ← Nat.pow_mul]
      congr 1
      omega
    rw [this]
    simp
  rw [e]
  have : (u64 x : Int) / ((256 ^ (7 - j) : Nat) : Int) % 256 = ((u64 x / 256 ^ (7 - j) % 256 : Nat) : Int) := by omega
  rw [this]
  simp [bigB, UInt8.toNat_ofNat']
set_option maxHeartbeats 4000000 in
set_option maxRecDepth 100000 in
theorem nums_any (b : Nat) (r : Option Nat) (bs : List UInt8) (bad : Bool) (l : List Int) (A : Option Addr) (n c : Nat) (w : World) (h : Wr w b r bs bad) (hr : Rd w A n (l.map (Value.int .i64))) (hA : 0 < n → ∀ o, A = some o → o.block ∉ blks b r) (hlen : bs.length + l.length * 8 ≤ 140737488355328) :
    Calls Try.prog 76 #[.pointer (some ⟨b, 0, none⟩), .slice A n c] w fun e w' => e = .returned (.tuple #[]) ∧ Wrs w b (blks b r) (bs ++ numsB l) bad w' := by
  have hln := hr.2.1
  have HR := Lib.hid hr
  have HL : Hid (l.length = n) := Lib.hid (by simpa using hr.len)
  have HA := Lib.hid hA
  have H0 := Lib.hid (Wrs.refl h)
  have hlen := Lib.hid hlen
  clear h hr hA
  go_enter Try.func76, Try.ntmps76
  go_wp2
  go_loopw [9] (fun i wr => ∃ k : Nat, k ≤ n ∧ i = .int .i64 k ∧ Wrs w b (blks b r) (bs ++ numsB (l.take k)) bad wr) (fun i _ => n - (intOf i).toNat)
  case atStart => exact ⟨0, by omega, rfl, by simpa [numsB] using H0.out⟩
  case round =>
    obtain ⟨k, hk, rfl, hW⟩ := hrel
    by_cases hlt : k < n
    · have hrk := Rd.keep0 HR.out hW.keep HA.out
      obtain ⟨ab, ao, hAe, hc⟩ := hrk.2.2 (by omega)
      subst hAe
      have hkl : k < l.length := by have := HL.out; omega
      obtain ⟨x, hx⟩ : ∃ x, Hid (x = l[k]) := ⟨_, Lib.hid rfl⟩
      have c0 := hc k hlt
      rw [List.getElem?_map, List.getElem?_eq_getElem hkl, ← hx.out] at c0
      simp only [Option.map_some] at c0
      have HW := Lib.hid hW
      clear hc hrk hW
      go_wp2
      go_loopw [6] (fun i wq => ∃ j : Nat, j ≤ 8 ∧ i = .int .i64 (56 - 8 * (j : Int)) ∧ Wrs w b (blks b r) (bs ++ numsB (l.take k) ++ (bigB (u64 x) 8).take j) bad wq) (fun i _ => ((intOf i) + 8).toNat)
      case atStart => exact ⟨0, by omega, rfl, by simpa using HW.out⟩
      case round =>
        obtain ⟨j, hj, rfl, hW⟩ := hrel
        by_cases hjlt : j < 8
        · obtain ⟨y, hy⟩ : ∃ y, Hid (y = (bigB (u64 x) 8)[j]'(by rw [len_big]; exact hjlt)) := ⟨_, Lib.hid rfl⟩
          obtain ⟨yn, hyn⟩ : ∃ yn : Nat, Hid (y.toNat = yn) := ⟨_, Lib.hid rfl⟩
          have hby := big_at x j hjlt y hy.out
          rw [hyn.out] at hby
          have HW1 := Lib.hid hW
          clear hW
          go_wp2_with fail
          refine (acc2 HW1.out (below_alloc _ _) (fun r1 h1 hlt => byte_any b r1 _ bad [y] _ 1 1 _ h1 (rd_bytes 1 (heap_alloc_new _ _) (by simp [Lib.byteCells, hyn.out]) rfl (by decide)) (fun _ o ho hm => by injection ho with ho; subst ho; exact absurd (hlt _ hm) (Nat.lt_irrefl _)) ?len)).mono ?_
          case len =>
            have := hlen.out
            have h8 := len_nums (l.take k)
            simp only [List.length_append, h8, List.length_take, len_big, List.length_cons, List.length_nil]
            omega
          rintro e w2 ⟨rfl, hW2⟩
          go_wp2
          go_roundw
          case rel => exact ⟨j + 1, by omega, by go_num, by rw [List.append_assoc, hy.out, take_snoc _ j (by rw [len_big]; exact hjlt)] at hW2; exact hW2⟩
          case measure => simp [intOf]; omega
        · have hj8 : 8 = j := by omega
          have hres : Hid (Wrs w b (blks b r) (bs ++ numsB (l.take (k + 1))) bad wr) := Lib.hid (by
            rw [List.take_of_length_le (l := bigB (u64 x) 8) (by rw [len_big]; omega), List.append_assoc] at hW
            rw [← take_snoc l k hkl, ← hx.out]
            simpa [numsB] using hW)
          clear hW
          subst hj8
          go_wp2
          go_roundw
          case rel => exact ⟨k + 1, by omega, by go_num, hres.out⟩
          case measure => simp [intOf]; omega
    · have hres : Hid (Wrs w b (blks b r) (bs ++ numsB l) bad wr) := Lib.hid (by
        rw [List.take_of_length_le (by have := HL.out; omega)] at hW; exact hW)
      go_wp2
      go_end0
      exact ⟨rfl, hres.out⟩
end Go.Proofs.Ytfpocddpnoighaa.Wr

/- The walks of the sum itself. -/
import Derived.Test.YtljdiaokjocfpaaCrcH
namespace Go.Proofs.Ytljdiaokjocfpaa.Crc
open Go.RowKit Go.Proofs.Ytljdiaokjocfpaa.L
set_option linter.unusedVariables false
set_option linter.unusedSimpArgs false

/-- a text's bytes. -/
def sb (s : ByteArray) : List Nat := s.data.toList.map UInt8.toNat
def sbs (l : List ByteArray) : List Nat := l.flatMap sb
def full : Nat := 4294967295
def more (sum : Nat) (bs : List Nat) : Nat := bytes (sum ^^^ full) bs ^^^ full

theorem more_lt (sum : Nat) (bs : List Nat) (hs : sum < 2 ^ 32) (hb : ∀ c ∈ bs, c < 256) : more sum bs < 2 ^ 32 :=
  Nat.xor_lt_two_pow (bytes_lt bs (Nat.xor_lt_two_pow hs (by decide)) hb) (by decide)
theorem sb_lt (s : ByteArray) : ∀ c ∈ sb s, c < 256 := by
  intro c hc
  simp only [sb, List.mem_map] at hc
  obtain ⟨x, _, rfl⟩ := hc
  exact x.toNat_lt
theorem sb_length (s : ByteArray) : (sb s).length = s.size := by simp only [sb, List.length_map, Array.length_toList]; rfl
theorem sb_at (s : ByteArray) (j : Nat) (h : j < s.size) : (sb s).take (j + 1) = (sb s).take j ++ [s[j].toNat] := by
  rw [List.take_succ_eq_append_getElem (by rw [sb_length]; exact h)]
  simp [sb]
  rfl
theorem sbs_lt (l : List ByteArray) : ∀ c ∈ sbs l, c < 256 := by
  intro c hc
  simp only [sbs, List.mem_flatMap] at hc
  obtain ⟨x, _, hx⟩ := hc
  exact sb_lt x c hx
theorem sbs_take (ss : List ByteArray) (k : Nat) (h : k < ss.length) : sbs (ss.take (k + 1)) = sbs (ss.take k) ++ sb ss[k] := by
  unfold sbs
  rw [List.take_succ_eq_append_getElem h, List.flatMap_append]
  simp
theorem xor32 {a b r : Nat} (h : r = a ^^^ b) (ha : a < 2 ^ 32) (hb : b < 2 ^ 32) : bits .xor .u32 (a : Int) (b : Int) = (r : Int) := by rw [h]; exact bits_xor32 a b ha hb
theorem xor32d {a b r : Nat} (h : r = (a / 16) ^^^ b) (ha : a < 2 ^ 32) (hb : b < 2 ^ 32) : bits .xor .u32 ((a : Int) / 16) (b : Int) = (r : Int) := by
  rw [h, show ((a : Int) / 16) = ((a / 16 : Nat) : Int) from by omega]; exact bits_xor32 _ b (by omega) hb
theorem and15 {a r : Nat} (h : r = a % 16) (ha : a < 2 ^ 32) : bits .and .u32 (a : Int) 15 = (r : Int) := by
  rw [show (15 : Int) = ((15 : Nat) : Int) from rfl, bits_and32 a 15 ha (by decide), h]
  congr 1
  exact Nat.and_two_pow_sub_one_eq_mod a 4
theorem xorMax {a r : Nat} (h : r = a ^^^ full) (ha : a < 2 ^ 32) : bits .xor .u32 IntKind.u32.max (a : Int) = (r : Int) := by
  rw [show IntKind.u32.max = ((full : Nat) : Int) from rfl, bits_xor32 full a (by decide) ha, h, Nat.xor_comm]

theorem more_any (sum : Nat) (A : Option Addr) (n c : Nat) (ss : List ByteArray) (w : World) (hs : sum < 2 ^ 32) (hr : Rd w A n (ss.map Value.string)) (hss : ∀ s ∈ ss, s.size ≤ 140737488351232) :
    Calls Try.prog 18 #[.int .u32 sum, .slice A n c] w fun e w' => e = .returned (.int .u32 (more sum (sbs ss) : Nat)) ∧ Below w.heap.size w w' := by
  have h3 : (Try.prog.info? 84).map (·.size) = some (Value.agg (tabAt 16)).cells.size := by rw [Try.siz84]; simp [Value.cells, tab_size]
  have h2 : 0 + (Value.agg (tabAt 16)).cells.size ≤ 16 := by simp [Value.cells, tab_size]
  obtain ⟨S0, hS0⟩ : ∃ x : Nat, Hid (x = sum ^^^ full) := ⟨_, Lib.hid rfl⟩
  have hx := xorMax hS0.out hs
  have hS0l : S0 < 2 ^ 32 := by rw [hS0.out]; exact Nat.xor_lt_two_pow hs (by decide)
  have hln : ss.length = n := by have := hr.len; simpa using this
  have hn := hr.2.1
  have hsg : IntKind.u32.signed = false := rfl
  go_enter Try.func18, Try.ntmps18
  go_wp2_with (first | (go_at_call 41; refine (halves_any _).mono ?_; rintro e w1 ⟨rfl, hb1⟩) | (refine wpList_store_blk rfl 84 _ _ rfl w1.heap.size 0 rfl _ _ _ rfl (heap_alloc_new _ _) h3 h2 (tab_one 16) (tabAt 16) (tab_all _ rfl) ?_; intro w2 ht hu))
  have hbl : Below w.heap.size w w2 := (hb1.alloc hb1.size _).trans (hu.below hb1.size)
  have hr2 := hr.below hbl
  have HL := Lib.hid hln
  clear hln hr hu
  go_loop [6, 15] (fun s i => ∃ k : Nat, k ≤ n ∧ i = .int .i64 k ∧ s = .int .u32 (bytes S0 (sbs (ss.take k)) : Nat)) (fun _ i => n - (intOf i).toNat)
  case atStart => exact ⟨0, by omega, rfl, rfl⟩
  case round =>
    obtain ⟨k, hk, rfl, rfl⟩ := hrel
    by_cases hlt : k < n
    · obtain ⟨b, o, rfl, hc⟩ := hr2.2.2 (by omega)
      have hkl : k < ss.length := by rw [HL.out]; exact hlt
      obtain ⟨tx, htx⟩ : ∃ x : ByteArray, Hid (x = ss[k]) := ⟨_, Lib.hid rfl⟩
      have hcell : w2.cell? ⟨b, o + k, none⟩ = some (.string tx) := by
        rw [hc k hlt, htx.out]; simp [hkl]
      have hts : tx.size ≤ 140737488351232 := hss _ (by rw [htx.out]; exact List.getElem_mem _)
      obtain ⟨T0, hT0⟩ : ∃ x : Nat, Hid (x = bytes S0 (sbs (ss.take k))) := ⟨_, Lib.hid rfl⟩
      have hT0l : T0 < 2 ^ 32 := by rw [hT0.out]; exact bytes_lt _ hS0l (sbs_lt _)
      have hstep : Hid (bytes S0 (sbs (ss.take (k + 1))) = bytes T0 (sb tx)) := Lib.hid (by rw [sbs_take ss k hkl, bytes_append, hT0.out, htx.out])
      rw [← hT0.out]
      clear hr2 hc
      go_wp2
      go_loop [6, 9] (fun s i => ∃ j : Nat, j ≤ tx.size ∧ i = .int .i64 j ∧ s = .int .u32 (bytes T0 ((sb tx).take j) : Nat)) (fun _ i => tx.size - (intOf i).toNat)
      case atStart => exact ⟨0, by omega, rfl, rfl⟩
      case round =>
        obtain ⟨j, hj, rfl, rfl⟩ := hrel
        obtain ⟨T, hT⟩ : ∃ x : Nat, Hid (x = bytes T0 ((sb tx).take j)) := ⟨_, Lib.hid rfl⟩
        have hTl : T < 2 ^ 32 := by rw [hT.out]; exact bytes_lt _ hT0l fun c hc => sb_lt tx c (List.mem_of_mem_take hc)
        rw [← hT.out]
        by_cases hjt : j < tx.size
        · have hcb := tx[j].toNat_lt
          obtain ⟨S1, hS1⟩ : ∃ x : Nat, Hid (x = T ^^^ tx[j].toNat) := ⟨_, Lib.hid rfl⟩
          have hS1l : S1 < 2 ^ 32 := by rw [hS1.out]; exact Nat.xor_lt_two_pow hTl (by omega)
          obtain ⟨m1, hm1⟩ : ∃ x : Nat, Hid (x = S1 % 16) := ⟨_, Lib.hid rfl⟩
          have hm1l : m1 < 16 := by rw [hm1.out]; omega
          obtain ⟨t1, ht1⟩ : ∃ x : Nat, Hid (x = f4 m1) := ⟨_, Lib.hid rfl⟩
          have ht1l : t1 < 2 ^ 32 := by rw [ht1.out]; exact f4_lt (by omega)
          obtain ⟨S2, hS2⟩ : ∃ x : Nat, Hid (x = (S1 / 16) ^^^ t1) := ⟨_, Lib.hid rfl⟩
          have hS2l : S2 < 2 ^ 32 := by rw [hS2.out]; exact Nat.xor_lt_two_pow (by omega) ht1l
          obtain ⟨m2, hm2⟩ : ∃ x : Nat, Hid (x = S2 % 16) := ⟨_, Lib.hid rfl⟩
          have hm2l : m2 < 16 := by rw [hm2.out]; omega
          obtain ⟨t2, ht2⟩ : ∃ x : Nat, Hid (x = f4 m2) := ⟨_, Lib.hid rfl⟩
          have ht2l : t2 < 2 ^ 32 := by rw [ht2.out]; exact f4_lt (by omega)
          obtain ⟨S3, hS3⟩ : ∃ x : Nat, Hid (x = (S2 / 16) ^^^ t2) := ⟨_, Lib.hid rfl⟩
          have e1 := xor32 hS1.out hTl (by omega)
          have e2 := and15 hm1.out hS1l
          have c1 : w2.cell? ⟨w1.heap.size, m1, none⟩ = some (.int .u32 (t1 : Nat)) := by rw [cell_of_row w2 _ _ _ _ _ ht, tab_cell 16 m1 hm1l, ht1.out, if_pos hm1l]
          have e3 := xor32d hS2.out hS1l ht1l
          have e4 := and15 hm2.out hS2l
          have c2 : w2.cell? ⟨w1.heap.size, m2, none⟩ = some (.int .u32 (t2 : Nat)) := by rw [cell_of_row w2 _ _ _ _ _ ht, tab_cell 16 m2 hm2l, ht2.out, if_pos hm2l]
          have e5 := xor32d hS3.out hS2l ht2l
          have hfin : Hid (S3 = bytes T0 ((sb tx).take (j + 1))) := Lib.hid (by
            rw [sb_at tx j hjt, bytes_append, ← hT.out]
            show S3 = byte T tx[j].toNat
            unfold byte
            rw [f8_half, ← hS1.out, show half S1 = S2 from by rw [hS2.out, ht1.out, hm1.out]; rfl, hS3.out, ht2.out, hm2.out]; rfl)
          go_wp2
          go_round
          case rel => exact ⟨j + 1, by omega, by go_num, by rw [hfin.out]⟩
          case measure => simp [intOf]; omega
        · have hje : j = tx.size := by omega
          subst hje
          have hT2 : Hid (T = bytes S0 (sbs (ss.take (k + 1)))) := Lib.hid (by
            rw [hstep.out, hT.out]
            congr 1
            rw [List.take_of_length_le]
            rw [sb_length]; omega)
          clear hjt hj
          go_wp2
          go_round
          case rel => exact ⟨k + 1, by omega, by go_num, by rw [hT2.out]⟩
          case measure => simp [intOf]; omega
    · have hke : k = n := by omega
      subst hke
      obtain ⟨T, hT⟩ : ∃ x : Nat, Hid (x = bytes S0 (sbs (ss.take k))) := ⟨_, Lib.hid rfl⟩
      have hTl : T < 2 ^ 32 := by rw [hT.out]; exact bytes_lt _ hS0l (sbs_lt _)
      rw [← hT.out]
      obtain ⟨R, hR⟩ : ∃ x : Nat, Hid (x = T ^^^ full) := ⟨_, Lib.hid rfl⟩
      have eR := xorMax hR.out hTl
      have hfin : Hid (R = more sum (sbs ss)) := Lib.hid (by
        rw [hR.out, hT.out, List.take_of_length_le (by rw [HL.out]; omega), hS0.out]; rfl)
      have hsg : IntKind.u32.signed = false := rfl
      clear hlt hk
      go_wp2
      go_ret
      exact ⟨(show Ending.returned (.int .u32 (R : Int)) = _ by rw [hfin.out]), hbl⟩

theorem sum_any (A : Option Addr) (n c : Nat) (ss : List ByteArray) (w : World) (hr : Rd w A n (ss.map Value.string)) (hss : ∀ s ∈ ss, s.size ≤ 140737488351232) :
    Calls Try.prog 15 #[.slice A n c] w fun e w' => e = .returned (.int .u32 (more 0 (sbs ss) : Nat)) ∧ Below w.heap.size w w' := by
  go_enter Try.func15, Try.ntmps15
  go_wp2_with (go_at_call 18; refine (more_any 0 _ _ _ ss _ (by decide) hr hss).mono ?_; rintro e w1 ⟨rfl, hb1⟩)
  go_ret
  exact ⟨rfl, hb1⟩

/-! ### the reference -/
theorem xorMaxR {a r : Nat} (h : r = a ^^^ full) (ha : a < 2 ^ 32) : bits .xor .u32 (a : Int) 4294967295 = (r : Int) := by
  rw [show (4294967295 : Int) = ((full : Nat) : Int) from rfl, bits_xor32 a full ha (by decide), h]
theorem and1 (x : Nat) (h : x < 2 ^ 32) : bits .and .u32 (x : Int) 1 = ((x % 2 : Nat) : Int) := by
  rw [show (1 : Int) = ((1 : Nat) : Int) from rfl, bits_and32 x 1 h (by decide), Nat.and_one_is_mod]
theorem and1d (c k : Nat) (h : c < 256) : bits .and .u32 ((c : Int) / 2 ^ k) 1 = ((c / 2 ^ k % 2 : Nat) : Int) := by
  have e : ((c : Int) / 2 ^ k) = ((c / 2 ^ k : Nat) : Int) := by
    rw [Int.natCast_ediv, Int.natCast_pow]; rfl
  rw [e, and1 _ (Nat.lt_of_le_of_lt (Nat.div_le_self _ _) (by omega))]
theorem rk_odd (c k T : Nat) (hc : c < 256) (hT : T < 2 ^ 32) (h : (bits .and .u32 ((rk c k T : Nat) : Int) 1 != bits .and .u32 ((c : Int) / 2 ^ k) 1) = true) :
    bits .xor .u32 (((rk c k T : Nat) : Int) / 2) 3988292384 = ((rk c (k + 1) T : Nat) : Int) := by
  have hl := rk_lt c T hT k
  rw [and1 _ hl, and1d c k hc, bne_iff_ne] at h
  have h' : rk c k T % 2 ≠ c / 2 ^ k % 2 := by omega
  rw [show (((rk c k T : Nat) : Int) / 2) = ((rk c k T / 2 : Nat) : Int) from by omega, show (3988292384 : Int) = ((poly : Nat) : Int) from rfl, bits_xor32 _ _ (by omega) poly_lt]
  show _ = ((r1 (rk c k T) (c / 2 ^ k % 2) : Nat) : Int)
  unfold r1
  rw [if_pos h']
theorem rk_even (c k T : Nat) (hc : c < 256) (hT : T < 2 ^ 32) (h : (bits .and .u32 ((rk c k T : Nat) : Int) 1 != bits .and .u32 ((c : Int) / 2 ^ k) 1) = false) :
    (((rk c k T : Nat) : Int) / 2) = ((rk c (k + 1) T : Nat) : Int) := by
  have hl := rk_lt c T hT k
  rw [and1 _ hl, and1d c k hc, bne_eq_false_iff_eq] at h
  have h' : ¬ rk c k T % 2 ≠ c / 2 ^ k % 2 := by omega
  show _ = ((r1 (rk c k T) (c / 2 ^ k % 2) : Nat) : Int)
  unfold r1
  rw [if_neg h']
  omega
theorem ref_any (sum : Nat) (tx : ByteArray) (w : World) (hs : sum < 2 ^ 32) (hts : tx.size ≤ 9223372036854775806) :
    Calls Try.prog 16 #[.int .u32 sum, .string tx] w fun e w' => e = .returned (.int .u32 (more sum (sb tx) : Nat)) ∧ w = w' := by
  obtain ⟨S0, hS0⟩ : ∃ x : Nat, Hid (x = sum ^^^ full) := ⟨_, Lib.hid rfl⟩
  have hx := xorMaxR hS0.out hs
  have hS0l : S0 < 2 ^ 32 := by rw [hS0.out]; exact Nat.xor_lt_two_pow hs (by decide)
  go_enter Try.func16, Try.ntmps16
  go_wp2
  go_loop [5, 6] (fun s i => ∃ j : Nat, j ≤ tx.size ∧ i = .int .i64 j ∧ s = .int .u32 (bytes S0 ((sb tx).take j) : Nat)) (fun _ i => tx.size - (intOf i).toNat)
  case atStart => exact ⟨0, by omega, rfl, rfl⟩
  case round =>
    obtain ⟨j, hj, rfl, rfl⟩ := hrel
    obtain ⟨T, hT⟩ : ∃ x : Nat, Hid (x = bytes S0 ((sb tx).take j)) := ⟨_, Lib.hid rfl⟩
    have hTl : T < 2 ^ 32 := by rw [hT.out]; exact bytes_lt _ hS0l fun c hc => sb_lt tx c (List.mem_of_mem_take hc)
    rw [← hT.out]
    by_cases hjt : j < tx.size
    · have hcb := tx[j].toNat_lt
      go_wp2
      go_loop [5, 7] (fun s i => ∃ k : Nat, k ≤ 8 ∧ i = .int .i64 k ∧ s = .int .u32 (rk tx[j].toNat k T : Nat)) (fun _ i => 8 - (intOf i).toNat)
      case atStart => exact ⟨0, by omega, rfl, rfl⟩
      case round =>
        obtain ⟨k, hk, rfl, rfl⟩ := hrel
        go_wp2
        · go_round
          case rel => exact ⟨k + 1, by omega, by go_num, by rw [rk_odd _ _ _ hcb hTl (by assumption)]⟩
          case measure => simp [intOf]; omega
        · go_round
          case rel => exact ⟨k + 1, by omega, by go_num, by rw [rk_even _ _ _ hcb hTl (by assumption)]⟩
          case measure => simp [intOf]; omega
        · have hk8 : k = 8 := by omega
          subst hk8
          go_round
          case rel => exact ⟨j + 1, by omega, by go_num, by rw [rk8 _ _ hcb, sb_at tx j hjt, bytes_append, ← hT.out]; rfl⟩
          case measure => simp [intOf]; omega
    · have hje : j = tx.size := by omega
      subst hje
      obtain ⟨R, hR⟩ : ∃ x : Nat, Hid (x = T ^^^ full) := ⟨_, Lib.hid rfl⟩
      have eR := xorMaxR hR.out hTl
      have hfin : Hid (R = more sum (sb tx)) := Lib.hid (by
        rw [hR.out, hT.out, List.take_of_length_le (by rw [sb_length]; omega), hS0.out]; rfl)
      clear hjt hj
      go_wp2
      go_ret
      exact ⟨(show Ending.returned (.int .u32 (R : Int)) = _ by rw [hfin.out]), rfl⟩
end Go.Proofs.Ytljdiaokjocfpaa.Crc

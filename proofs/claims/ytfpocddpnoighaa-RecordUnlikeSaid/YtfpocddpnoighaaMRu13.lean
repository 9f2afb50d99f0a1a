/- wire: the document's Big and value. -/
import Derived.Laws.IdiomStrings
import Derived.Laws.Rows
import Derived.Test.YtfpocddpnoighaaMRu2
import Derived.Test.YtfpocddpnoighaaMRu6
import Derived.Test.YtfpocddpnoighaaMRu9
import Derived.Test.YtfpocddpnoighaaMRu10
namespace Go.Proofs.Ytfpocddpnoighaa.Wr
open Go.RowKit Go.Proofs.Ytfpocddpnoighaa.L Go.Proofs.Ytfpocddpnoighaa.A Go.Proofs.Ytfpocddpnoighaa.S Go.Proofs.Ytfpocddpnoighaa.T
set_option linter.unusedVariables false
set_option linter.unusedSimpArgs false

/-- what Big's row holds when its bytes from t on are laid. -/
def bigP (n size t : Nat) : List UInt8 := List.replicate t 0 ++ (bigB n size).drop t
theorem bigP_all (n size : Nat) : bigP n size 0 = bigB n size := by simp [bigP]
theorem bigP_none (n size : Nat) : bigP n size size = List.replicate size 0 := by
  unfold bigP
  rw [List.drop_eq_nil_of_le (by rw [len_big]; exact Nat.le_refl _), List.append_nil]
theorem len_bigP (n size t : Nat) (h : t ≤ size) : (bigP n size t).length = size := by
  unfold bigP; rw [List.length_append, List.length_replicate, List.length_drop, len_big]; omega
theorem bigP_set (n size t : Nat) (h : t < size) : (bigP n size (t + 1)).set t (UInt8.ofNat (n / 256 ^ (size - (t + 1)) % 256)) = bigP n size t := by
  have h1 : (bigB n size)[t]'(by rw [len_big]; exact h) = UInt8.ofNat (n / 256 ^ (size - (t + 1)) % 256) := by
    simp only [bigB, List.getElem_map, List.getElem_range]
    congr 4
    omega
  unfold bigP
  rw [List.drop_eq_getElem_cons (i := t) (by rw [len_big]; exact h), h1, List.replicate_succ', List.append_assoc, List.set_append_right _ _ (by simp)]
  simp
theorem made_bytes (n : Nat) : madeCells (Value.int .u8 0).cells (n * 1) = (Lib.byteCells (List.replicate n 0)).toArray := by
  apply Array.ext'
  apply List.ext_getElem?
  intro i
  by_cases hi : i < n * 1
  · simp only [madeCells, Array.toList_map, List.getElem?_map, Array.toList_range, List.getElem?_range hi, Option.map_some, Lib.byteCells]
    rw [List.getElem?_replicate, if_pos (by omega)]
    simp [Value.cells]
    rw [Nat.mod_one]
    rfl
  · rw [List.getElem?_eq_none (by simp [madeCells]; omega), List.getElem?_eq_none (by simp [Lib.byteCells]; omega)]
theorem byte_info : (Try.prog.info? 5).map (fun i => (i.zero, i.size, i.bytes)) = some (some (.int .u8 0), 1, 1) := by kernel_rfl
theorem run_made (n : Nat) (h : n ≤ 8) (w : World) : (Instr.makeSlice 26 (.int .i64 n) (.int .i64 n)).run Try.prog w = .ok (.slice (some ⟨w.heap.size, 0, none⟩) n n) (w.alloc (.cells (Lib.byteCells (List.replicate n 0)).toArray 5)) := by
  obtain ⟨i0, hi, hz0, hz1, hz2⟩ := info_parts byte_info
  have := run_make (P := Try.prog) w 26 5 i0 _ (by kernel_rfl) hi hz0 .i64 .i64 (n : Int) (n : Int) (by omega) (by omega) (by rw [hz2]; omega) (by omega)
  rw [hz1, Int.toNat_natCast, made_bytes] at this
  exact this
set_option maxHeartbeats 4000000 in
set_option maxRecDepth 100000 in
theorem big_any (n size : Nat) (hn : n < 18446744073709551616) (hs : size ≤ 8) (w : World) :
    Calls Try.prog 87 #[.int .u64 n, .int .i64 size] w fun e w' => e = .returned (.string ⟨(bigB n size).toArray⟩) ∧ Below w.heap.size w w' := by
  have hmk := run_made size hs
  obtain ⟨g, hg⟩ : ∃ g, Hid (w.heap.size = g) := ⟨_, Lib.hid rfl⟩
  obtain ⟨W, hW⟩ : ∃ W, Hid (w.alloc (.cells (Lib.byteCells (List.replicate size 0)).toArray 5) = W) := ⟨_, Lib.hid rfl⟩
  have H0 : Hid (W.heap[g]? = some (.cells (Lib.byteCells (bigP n size size)).toArray 5 (0, 0)) ∧ Below g w W) := Lib.hid (by
    rw [bigP_none, ← hW.out, ← hg.out]
    exact ⟨heap_alloc_new _ _, below_alloc _ _⟩)
  go_enter Try.func87, Try.ntmps87
  go_wp2_with fail
  rw [hW.out, hg.out]
  clear hmk
  go_loopw [0, 6] (fun m i wr => ∃ (t : Nat) (j : Int), j + 1 = t ∧ t ≤ size ∧ i = .int .i64 j ∧ m = .int .u64 (n / 256 ^ (size - t) : Nat) ∧ wr.heap[g]? = some (.cells (Lib.byteCells (bigP n size t)).toArray 5 (0, 0)) ∧ Below g w wr) (fun _ i _ => ((intOf i) + 1).toNat)
  case atStart => exact ⟨size, (size : Int) - 1, by omega, by omega, by first | rfl | (congr 1), by simp, H0.out.1, H0.out.2⟩
  case round =>
    obtain ⟨t, j, hj, ht, rfl, rfl, hb, hlow⟩ := hrel
    cases t with
    | zero =>
      obtain rfl : j = -1 := by omega
      rw [bigP_all] at hb
      have hconv : Hid (∀ cap, (convert 26 9 (.slice (some ⟨g, 0, none⟩) (bigB n size).length cap)).run Try.prog wr = .ok (.string ⟨(bigB n size).toArray⟩) wr) := Lib.hid fun cap =>
        run_convert_bytes_back wr 26 9 5 ⟨g, 0, none⟩ cap (bigB n size) (by kernel_rfl) (by kernel_rfl) (by kernel_rfl) (fun k hk => by
          have hadd : (⟨g, 0, none⟩ : Addr).add k = ⟨g, k, none⟩ := by unfold Addr.add; split <;> simp_all
          rw [hadd, cell_of_row _ _ _ _ _ _ hb]
          simp [Lib.byteCells, hk])
      have hc := hconv.out size
      rw [len_big] at hc
      clear hb
      go_wp2
      go_ret
      exact ⟨rfl, by rw [hg.out]; exact hlow⟩
    | succ t =>
      obtain rfl : j = (t : Int) := by omega
      obtain ⟨m, hm⟩ : ∃ m : Nat, Hid (n / 256 ^ (size - (t + 1)) = m) := ⟨_, Lib.hid rfl⟩
      have hml : m < 18446744073709551616 := by rw [← hm.out]; exact Nat.lt_of_le_of_lt (Nat.div_le_self _ _) hn
      have hm2 : Hid (m / 256 = n / 256 ^ (size - t)) := Lib.hid (by
        rw [← hm.out, Nat.div_div_eq_div_mul, ← Nat.pow_succ]
        congr 2
        omega)
      have hset := Lib.hid (bigP_set n size t (by omega))
      rw [hm.out] at hset ⊢
      have c0 : wr.cell? ⟨g, t, none⟩ = some (.int .u8 0) := by
        rw [cell_of_row _ _ _ _ _ _ hb]
        simp only [Lib.byteCells, bigP, List.getElem?_toArray, List.map_append, List.map_replicate]
        rw [List.getElem?_append_left (by simp), List.getElem?_replicate, if_pos (by omega)]
        rfl
      have f0 : wr.frozen? ⟨g, t, none⟩ = false := by simp [World.frozen?, hb]
      have hnew : Hid ((wr.setCell ⟨g, t, none⟩ (.int .u8 ((m : Int) % 256))).heap[g]? = some (.cells (Lib.byteCells (bigP n size t)).toArray 5 (0, 0)) ∧ Below g w (wr.setCell ⟨g, t, none⟩ (.int .u8 ((m : Int) % 256)))) := Lib.hid ⟨by
          rw [heap_setCell_at wr g t _ _ _ _ hb, ← hset.out]
          simp only [Lib.byteCells, List.map_set, List.setIfInBounds_toArray, UInt8.toNat_ofNat']
          rw [show (m : Int) % 256 = ((m % 256 % 2 ^ 8 : Nat) : Int) by omega], hlow.setCell (p := ⟨g, t, none⟩) (Nat.le_refl _) _⟩
      have hts : t < size := by omega
      clear hb hlow
      go_wp2
      go_roundw
      case rel => exact ⟨t, (t : Int) - 1, by omega, by omega, rfl, by rw [← hm2.out]; simp, hnew.out.1, hnew.out.2⟩
      case measure => simp [intOf]
set_option maxHeartbeats 1000000 in
theorem value_any (s : ByteArray) (w : World) (hs : s.size ≤ 9223372036854775807) (m : Nat) (hm : numV s.data.toList = m) :
    Calls Try.prog 88 #[.string s] w fun e w' => e = .returned (.int .u64 (m : Nat)) ∧ w = w' := by
  have HM := Lib.hid hm
  clear hm
  go_enter Try.func88, Try.ntmps88
  go_wp2
  go_loopw [3, 4] (fun n i wr => ∃ k j : Nat, k ≤ s.size ∧ i = .int .i64 k ∧ n = .int .u64 j ∧ j < 18446744073709551616 ∧ Hid (numV (s.data.toList.take k) = j) ∧ wr = w) (fun _ i _ => s.size - (intOf i).toNat)
  case atStart => exact ⟨0, 0, by omega, rfl, rfl, by omega, Lib.hid rfl, rfl⟩
  case round =>
    obtain ⟨k, j, hk, rfl, rfl, hj, hn, rfl⟩ := hrel
    by_cases hlt : k < s.size
    · obtain ⟨y, hy⟩ : ∃ y : Nat, Hid ((j * 256 + s[k].toNat) % 18446744073709551616 = y) := ⟨_, Lib.hid rfl⟩
      have hy2 : Hid (y < 18446744073709551616) := Lib.hid (by rw [← hy.out]; omega)
      have hy3 : Hid (numV (s.data.toList.take (k + 1)) = y) := Lib.hid (by
        rw [List.take_succ_eq_append_getElem (by simpa using hlt), numV_snoc, hn.out, ← hy.out]
        rfl)
      clear hn
      go_wp2
      go_roundw
      case rel =>
        refine ⟨k + 1, y, by omega, by go_num, ?_, hy2.out, hy3, trivial⟩
        rw [← hy.out]
        have h1 := UInt8.toNat_lt s[k]
        obtain ⟨x, hx⟩ : ∃ x : Nat, s[k].toNat = x := ⟨_, rfl⟩
        rw [hx] at h1 ⊢
        rw [IntKind.wrap_u64, IntKind.wrap_u64, IntKind.wrap_u64]
        congr 1
        omega
      case measure => simp [intOf]; omega
    · have hres : Hid (j = m) := Lib.hid (by
        rw [← hn.out, ← HM.out, List.take_of_length_le]
        simp
        show s.size ≤ k
        omega)
      go_wp2
      go_ret
      exact ⟨reti (by rw [hres.out]), rfl⟩
end Go.Proofs.Ytfpocddpnoighaa.Wr

/- wire: the document's Put. -/
namespace Go.Proofs.Ytfpocddpnoighaa.Wr
open Go.RowKit Go.Proofs.Ytfpocddpnoighaa.L Go.Proofs.Ytfpocddpnoighaa.A Go.Proofs.Ytfpocddpnoighaa.S Go.Proofs.Ytfpocddpnoighaa.T Go.Proofs.Ytfpocddpnoighaa.R
set_option linter.unusedVariables false
set_option linter.unusedSimpArgs false

/-- what Put hands back, for the kinds that there are. -/
def putV (x : Th) : Value := .tuple #[.string ⟨(putB x).toArray⟩, .bool (putOk x)]
theorem str_app (a : List UInt8) (s : ByteArray) : (⟨a.toArray⟩ : ByteArray) ++ s = ⟨(a ++ s.data.toList).toArray⟩ := by
  apply ByteArray.ext
  simp
set_option maxHeartbeats 4000000 in
set_option maxRecDepth 100000 in
theorem put_ref (x : Th) (hk0 : 0 ≤ x.k) (hk4 : x.k ≤ 4) (hg : goodTh x) (w : World) :
    Calls Try.prog 29 #[.agg #[.int .i64 x.k, .int .i64 x.n, .string x.s]] w fun e w' => e = .returned (putV x) ∧ Below w.heap.size w w' := by
  obtain ⟨k, n, s⟩ := x
  obtain ⟨v, hv⟩ : ∃ v, Hid (putV ⟨k, n, s⟩ = v) := ⟨_, Lib.hid rfl⟩
  obtain ⟨g1, g2, g3⟩ := hg
  rw [hv.out]
  dsimp only at hk0 hk4 g1 g2 g3 ⊢
  have hv' := hv.out
  simp only [putV, putB, putOk] at hv'
  clear hv
  have HV := Lib.hid hv'
  clear hv'
  obtain ⟨W, hW⟩ : ∃ W, Hid (w.alloc (.cells #[.int .i64 k, .int .i64 n, .string s] 32) = W) := ⟨_, Lib.hid rfl⟩
  have hb0 : Hid (Below w.heap.size w W) := Lib.hid (by rw [← hW.out]; exact below_alloc _ _)
  have hblk : Hid (W.heap[w.heap.size]? = some (.cells #[.int .i64 k, .int .i64 n, .string s] 32 (0, 0))) := Lib.hid (by rw [← hW.out]; exact heap_alloc_new _ _)
  have hsz : Hid (w.heap.size + 1 = W.heap.size) := Lib.hid (by rw [← hW.out]; simp)
  by_cases k0 : k = 0
  · subst k0
    have ev : Hid (v = .tuple #[.string ⟨[UInt8.ofNat (n % 256).toNat].toArray⟩, .bool true]) := Lib.hid (by rw [← HV.out]; simp)
    have hconv : ∀ (w' : World) (c : Int), c = n % 256 → w'.cell? ⟨w.heap.size + 1, 0, none⟩ = some (.int .u8 c) → (convert 26 9 (.slice (some ⟨w.heap.size + 1, 0, none⟩) 1 1)).run Try.prog w' = .ok (.string ⟨[UInt8.ofNat (n % 256).toNat].toArray⟩) w' := fun w' c hc hcell =>
      run_convert_bytes_back w' 26 9 5 ⟨w.heap.size + 1, 0, none⟩ 1 [UInt8.ofNat (n % 256).toNat] (by kernel_rfl) (by kernel_rfl) (by kernel_rfl) (fun j hj => by
        obtain rfl : j = 0 := by simpa using hj
        have hadd : (⟨w.heap.size + 1, 0, none⟩ : Addr).add 0 = ⟨w.heap.size + 1, 0, none⟩ := by unfold Addr.add; split <;> simp_all
        rw [hadd, hcell, hc]
        simp [UInt8.toNat_ofNat']
        omega)
    clear HV
    go_enter Try.func29, Try.ntmps29
    go_wp2
    go_ret2
    exact ⟨retv ev.out.symm, below2 (below_alloc _ _) (below_alloc _ _)⟩
  by_cases k1 : k = 1
  · subst k1
    by_cases n1 : n = 1
    · subst n1
      have ev : Hid (v = .tuple #[.string ⟨(bigB 1 1).toArray⟩, .bool true]) := Lib.hid (by rw [← HV.out]; simp; kernel_rfl)
      clear HV
      go_enter Try.func29, Try.ntmps29
      go_wp2_with fail
      rw [hW.out]
      refine (big_any 1 1 (by omega) (by omega) W).mono ?_
      rintro e w1 ⟨rfl, hb1⟩
      go_wp2
      go_ret2
      exact ⟨retv ev.out.symm, below2 hb0.out hb1⟩
    · have ev : Hid (v = .tuple #[.string ⟨(bigB 0 1).toArray⟩, .bool true]) := Lib.hid (by rw [← HV.out]; simp [n1]; kernel_rfl)
      have n1' : (n == 1) = false := by simpa using n1
      clear HV n1
      go_enter Try.func29, Try.ntmps29
      go_wp2_with fail
      rw [hW.out]
      refine (big_any 0 1 (by omega) (by omega) W).mono ?_
      rintro e w1 ⟨rfl, hb1⟩
      go_wp2
      go_ret2
      exact ⟨retv ev.out.symm, below2 hb0.out hb1⟩
  by_cases k2 : k = 2
  · subst k2
    by_cases hlo : n < 0
    · have ev : Hid (v = .tuple #[.string ⟨#[]⟩, .bool false]) := Lib.hid (by
        have : okN n = false := by simp [okN]; omega
        rw [← HV.out]; simp [this])
      clear HV
      go_enter Try.func29, Try.ntmps29
      go_wp2
      rw [hW.out]
      go_ret2
      exact ⟨retv ev.out.symm, hb0.out⟩
    · by_cases hhi : 65535 < n
      · have ev : Hid (v = .tuple #[.string ⟨#[]⟩, .bool false]) := Lib.hid (by
          have : okN n = false := by simp [okN]; omega
          rw [← HV.out]; simp [this])
        clear HV
        go_enter Try.func29, Try.ntmps29
        go_wp2
        rw [hW.out]
        go_ret2
        exact ⟨retv ev.out.symm, hb0.out⟩
      · obtain ⟨m, rfl⟩ : ∃ m : Nat, n = m := ⟨n.toNat, by omega⟩
        have ev : Hid (v = .tuple #[.string ⟨(bigB m 2).toArray⟩, .bool true]) := Lib.hid (by
          have : okN (m : Int) = true := by simp [okN]; omega
          rw [← HV.out]; simp [this])
        clear HV
        go_enter Try.func29, Try.ntmps29
        go_wp2_with fail
        rw [hW.out]
        refine (big_any m 2 (by omega) (by omega) W).mono ?_
        rintro e w1 ⟨rfl, hb1⟩
        go_wp2
        go_ret2
        exact ⟨retv ev.out.symm, below2 hb0.out hb1⟩
  by_cases k3 : k = 3
  · subst k3
    have ev : Hid (v = .tuple #[.string ⟨(bigB (u64 n) 8).toArray⟩, .bool true]) := Lib.hid (by rw [← HV.out]; simp)
    have hw := u64_wrap n
    have hul : Hid (u64 n < 18446744073709551616) := Lib.hid (by unfold u64; omega)
    obtain ⟨m, hm⟩ : ∃ m, Hid (u64 n = m) := ⟨_, Lib.hid rfl⟩
    rw [hm.out] at hw ev hul
    clear HV
    go_enter Try.func29, Try.ntmps29
    go_wp2_with fail
    rw [hW.out]
    refine (big_any m 8 hul.out (by omega) W).mono ?_
    rintro e w1 ⟨rfl, hb1⟩
    go_wp2
    go_ret2
    exact ⟨retv ev.out.symm, below2 hb0.out hb1⟩
  · obtain rfl : k = 4 := by omega
    by_cases hbig : 65535 < s.size
    · have ev : Hid (v = .tuple #[.string ⟨#[]⟩, .bool false]) := Lib.hid (by
        have : okN (s.size : Nat) = false := by simp [okN]; omega
        rw [← HV.out]; simp [this, textB])
      have hbig' : (65535 : Int) < (s.size : Nat) := by omega
      clear HV
      go_enter Try.func29, Try.ntmps29
      go_wp2
      rw [hW.out]
      go_ret2
      exact ⟨retv ev.out.symm, hb0.out⟩
    · have HR : Hid (v = .tuple #[.string (⟨(bigB s.size 2).toArray⟩ ++ s), .bool true]) := Lib.hid (by
        have : okN (s.size : Nat) = true := by simp [okN]; omega
        rw [← HV.out, str_app]; simp [this, textB])
      have hbig' : ¬ (65535 : Int) < (s.size : Nat) := by omega
      have hcat : ((⟨(bigB s.size 2).toArray⟩ : ByteArray)).size + s.size ≤ 70000 := by
        have : ((⟨(bigB s.size 2).toArray⟩ : ByteArray)).size = 2 := by
          show (bigB s.size 2).toArray.size = 2
          simp [len_big]
        omega
      obtain ⟨hd, hhd⟩ : ∃ hd, Hid ((⟨(bigB s.size 2).toArray⟩ : ByteArray) = hd) := ⟨_, Lib.hid rfl⟩
      rw [hhd.out] at hcat HR
      have hcat2 : ¬ 9223372036854775807 < hd.size + s.size := by omega
      have hwl : IntKind.u64.wrap (s.size : Int) = (s.size : Nat) := by rw [IntKind.wrap_u64]; omega
      have hS0 : w.heap.size + 1 ≤ W.drew.heap.size ∧ Below w.heap.size w W.drew ∧ W.drew.heap[w.heap.size]? = some (.cells #[.int .i64 4, .int .i64 n, .string s] 32 (0, 0)) := ⟨Nat.le_of_eq hsz.out, hb0.out.drew, hblk.out⟩
      clear HV
      go_enter Try.func29, Try.ntmps29
      go_wp2_with fail
      rw [hW.out]
      refine wp_region_one (fun W => w.heap.size + 1 ≤ W.heap.size ∧ Below w.heap.size w W ∧ W.heap[w.heap.size]? = some (.cells #[.int .i64 4, .int .i64 n, .string s] 32 (0, 0))) (fun u v => Below u.heap.size u v) (fun a i => match i with
          | 0 => (fun v _ => v = .pointer (some ⟨w.heap.size, 2, none⟩))
          | 1 => (fun v _ => v = .string s)
          | 2 => (fun v _ => v = .int .i64 (s.size : Nat))
          | 3 => (fun v _ => v = .int .u64 (s.size : Nat))
          | 4 => (fun v _ => v = .string hd)
          | 5 => (fun v _ => v = .pointer (some ⟨w.heap.size, 2, none⟩))
          | 6 => (fun v _ => v = .string s)
          | 7 => (fun v _ => v = .string (hd ++ s))
          | 8 => (fun v _ => v = .string (hd ++ s))
          | 9 => (fun v _ => v = .bool true)
          | _ => (fun _ _ => True)) #[0, 1, 3, 7, 15, 0, 32, 127, 255, 511] #[0, 1, 2, 4, 8, 0, 32, 80, 128, 0] 1023 (by kernel_rfl) 10 rfl (fun m hm => by subst hm; kernel_rfl) (by kernel_rfl) (fun w => Below.refl _ w) (fun u v w h1 h2 => below2 h1 h2) ?_ (hS0) ?_ ?_
      · intro i hi
        rcases (by omega : i = 0 ∨ i = 1 ∨ i = 2 ∨ i = 3 ∨ i = 4 ∨ i = 5 ∨ i = 6 ∨ i = 7 ∨ i = 8 ∨ i = 9) with rfl | rfl | rfl | rfl | rfl | rfl | rfl | rfl | rfl | rfl
        · exact fun v w w' h hr => by exact h
        · exact fun v w w' h hr => by exact h
        · exact fun v w w' h hr => by exact h
        · exact fun v w w' h hr => by exact h
        · exact fun v w w' h hr => by exact h
        · exact fun v w w' h hr => by exact h
        · exact fun v w w' h hr => by exact h
        · exact fun v w w' h hr => by exact h
        · exact fun v w w' h hr => by exact h
        · exact fun v w w' h hr => by exact h
      · intro i hi
        rcases (by omega : i = 0 ∨ i = 1 ∨ i = 2 ∨ i = 3 ∨ i = 4 ∨ i = 5 ∨ i = 6 ∨ i = 7 ∨ i = 8 ∨ i = 9) with rfl | rfl | rfl | rfl | rfl | rfl | rfl | rfl | rfl | rfl
        · -- 0: Op.fieldAddr 32 (Operand.tmp 1) 2
          intro l hl vs W hS hR hp
          obtain rfl : l = [] := hl.symm.trans (by kernel_rfl)
          clear hp hl
          refine opgoal (_) (some 46) rfl rfl fun K hK => ?_
          refine Runs.mk ?_
          simp only [putAll]
          go_simp
          refine hK _ _ ?_ hS ((fun w => Below.refl _ w) W) _ rfl rfl
          first | rfl | go_simp | simp
        · -- 1: Op.load 9 (Operand.tmp 46)
          intro l hl vs W hS hR hp
          obtain rfl : l = [(0, 46)] := hl.symm.trans (by kernel_rfl)
          have p0 : vs 0 = _ := hp 0 (by decide) (by decide)
          clear hp hl
          refine opgoal (_) (some 47) rfl rfl fun K hK => ?_
          have f2 : W.cell? ⟨w.heap.size, 2, none⟩ = some (.string s) := by rw [cell_of_row _ _ _ _ _ _ hS.2.2]; rfl
          refine Runs.mk ?_
          simp only [putAll]
          go_simp
          refine hK _ _ ?_ hS ((fun w => Below.refl _ w) W) _ rfl rfl
          first | rfl | go_simp | simp
        · -- 2: Op.call { callee := Callee.builtin Builtin.len, args := #[Operand.tmp 47], argTypes := #[9] }
          intro l hl vs W hS hR hp
          obtain rfl : l = [(0, 46), (1, 47)] := hl.symm.trans (by kernel_rfl)
          have p1 : vs 1 = _ := hp 1 (by decide) (by decide)
          clear hp hl
          refine opgoal (_) (some 48) rfl rfl fun K hK => ?_
          refine Runs.mk ?_
          simp only [putAll]
          go_simp
          refine hK _ _ ?_ hS ((fun w => Below.refl _ w) W) _ rfl rfl
          first | rfl | go_simp | simp
        · -- 3: Op.convert 3 131 (Operand.tmp 48)
          intro l hl vs W hS hR hp
          obtain rfl : l = [(0, 46), (1, 47), (2, 48)] := hl.symm.trans (by kernel_rfl)
          have p2 : vs 2 = _ := hp 2 (by decide) (by decide)
          clear hp hl
          refine opgoal (_) (some 49) rfl rfl fun K hK => ?_
          refine Runs.mk ?_
          simp only [putAll]
          go_simp
          refine hK _ _ ?_ hS ((fun w => Below.refl _ w) W) _ rfl rfl
          first | rfl | go_simp | simp
        · -- 4: Op.call { callee := Callee.value (Operand.func 87), args := #[Operand.tmp 49, Operand.const (Value.int IntKind.i64 2)], argTypes := #[131, 3] }
          intro l hl vs W hS hR hp
          obtain rfl : l = [(0, 46), (1, 47), (2, 48), (3, 49)] := hl.symm.trans (by kernel_rfl)
          have p3 : vs 3 = _ := hp 3 (by decide) (by decide)
          clear hp hl
          refine opgoal (_) (some 50) rfl rfl fun K hK => ?_
          refine Runs.mk ?_
          simp only [putAll]
          go_simp
          refine (big_any s.size 2 (by omega) (by omega) W).mono ?_
          rintro e w' ⟨he, hb⟩
          rw [hhd.out] at he
          subst he
          go_simp
          exact hK _ _ rfl ⟨Nat.le_trans hS.1 hb.size, below2 hS.2.1 hb, (hb.block _ (by have := hS.1; omega)).trans hS.2.2⟩ hb _ rfl rfl
        · -- 5: Op.fieldAddr 32 (Operand.tmp 1) 2
          intro l hl vs W hS hR hp
          obtain rfl : l = [] := hl.symm.trans (by kernel_rfl)
          clear hp hl
          refine opgoal (_) (some 51) rfl rfl fun K hK => ?_
          refine Runs.mk ?_
          simp only [putAll]
          go_simp
          refine hK _ _ ?_ hS ((fun w => Below.refl _ w) W) _ rfl rfl
          first | rfl | go_simp | simp
        · -- 6: Op.load 9 (Operand.tmp 51)
          intro l hl vs W hS hR hp
          obtain rfl : l = [(5, 51)] := hl.symm.trans (by kernel_rfl)
          have p5 : vs 5 = _ := hp 5 (by decide) (by decide)
          clear hp hl
          refine opgoal (_) (some 52) rfl rfl fun K hK => ?_
          have f2 : W.cell? ⟨w.heap.size, 2, none⟩ = some (.string s) := by rw [cell_of_row _ _ _ _ _ _ hS.2.2]; rfl
          refine Runs.mk ?_
          simp only [putAll]
          go_simp
          refine hK _ _ ?_ hS ((fun w => Below.refl _ w) W) _ rfl rfl
          first | rfl | go_simp | simp
        · -- 7: Op.binOp BinOp.add 9 (Operand.tmp 50) (Operand.tmp 52) 9
          intro l hl vs W hS hR hp
          obtain rfl : l = [(0, 46), (1, 47), (2, 48), (3, 49), (4, 50), (5, 51), (6, 52)] := hl.symm.trans (by kernel_rfl)
          have p4 : vs 4 = _ := hp 4 (by decide) (by decide)
          have p6 : vs 6 = _ := hp 6 (by decide) (by decide)
          clear hp hl
          refine opgoal (_) (some 53) rfl rfl fun K hK => ?_
          refine Runs.mk ?_
          simp only [putAll]
          go_simp
          refine hK _ _ ?_ hS ((fun w => Below.refl _ w) W) _ rfl rfl
          first | rfl | go_simp | simp
        · -- 8: Op.assign (Operand.tmp 53)
          intro l hl vs W hS hR hp
          obtain rfl : l = [(0, 46), (1, 47), (2, 48), (3, 49), (4, 50), (5, 51), (6, 52), (7, 53)] := hl.symm.trans (by kernel_rfl)
          have p7 : vs 7 = _ := hp 7 (by decide) (by decide)
          clear hp hl
          refine opgoal (_) (some 2) rfl rfl fun K hK => ?_
          refine Runs.mk ?_
          simp only [putAll]
          go_simp
          refine hK _ _ ?_ hS ((fun w => Below.refl _ w) W) _ rfl rfl
          first | rfl | go_simp | simp
        · -- 9: Op.assign (Operand.const (Value.bool true))
          intro l hl vs W hS hR hp
          obtain rfl : l = [(0, 46), (1, 47), (2, 48), (3, 49), (4, 50), (5, 51), (6, 52), (7, 53), (8, 2)] := hl.symm.trans (by kernel_rfl)
          clear hp hl
          refine opgoal (_) (some 3) rfl rfl fun K hK => ?_
          refine Runs.mk ?_
          simp only [putAll]
          go_simp
          refine hK _ _ ?_ hS ((fun w => Below.refl _ w) W) _ rfl rfl
          first | rfl | go_simp | simp
      · intro l hl vs W hS hR hp
        obtain rfl : l = [(0, 46), (1, 47), (2, 48), (3, 49), (4, 50), (5, 51), (6, 52), (7, 53), (8, 2), (9, 3)] := hl.symm.trans (by kernel_rfl)
        have p0 : vs 0 = _ := hp 0 (by decide) (by decide)
        have p1 : vs 1 = _ := hp 1 (by decide) (by decide)
        have p2 : vs 2 = _ := hp 2 (by decide) (by decide)
        have p3 : vs 3 = _ := hp 3 (by decide) (by decide)
        have p4 : vs 4 = _ := hp 4 (by decide) (by decide)
        have p5 : vs 5 = _ := hp 5 (by decide) (by decide)
        have p6 : vs 6 = _ := hp 6 (by decide) (by decide)
        have p7 : vs 7 = _ := hp 7 (by decide) (by decide)
        have p8 : vs 8 = _ := hp 8 (by decide) (by decide)
        have p9 : vs 9 = _ := hp 9 (by decide) (by decide)
        clear hp hl
        simp only [putAll_mk, setAll, List.setIfInBounds_toArray, List.set_cons_succ, List.set_cons_zero, p0, p1, p2, p3, p4, p5, p6, p7, p8, p9]
        have HS := Lib.hid hS.2.1
        clear hS hR
        go_wp2
        go_ret2
        exact ⟨retv HR.out.symm, HS.out⟩
end Go.Proofs.Ytfpocddpnoighaa.Wr

/- wire: the document's Get. -/
namespace Go.Proofs.Ytfpocddpnoighaa.Wr
open Go.RowKit Go.Proofs.Ytfpocddpnoighaa.L Go.Proofs.Ytfpocddpnoighaa.A Go.Proofs.Ytfpocddpnoighaa.S Go.Proofs.Ytfpocddpnoighaa.T
set_option linter.unusedVariables false
set_option linter.unusedSimpArgs false

def szOf : Nat → Nat
  | 0 => 1
  | 1 => 1
  | 2 => 2
  | 3 => 8
  | _ => 2
/-- the number of a text's first bytes. -/
def headV (n : Nat) (s : ByteArray) : Nat := numV (s.extract 0 n).data.toList
theorem headV_lt (n : Nat) (s : ByteArray) (hn : n ≤ 8) : headV n s < 256 ^ n := numV_lt _ n (by rw [Array.length_toList]; show (s.extract 0 n).size ≤ n; rw [ByteArray.size_extract]; omega) hn
/-- what Get finds: the thing's number and text, and how many bytes it has. -/
def refG (k : Nat) (s : ByteArray) : Option (Int × ByteArray × Nat) :=
  if s.size < szOf k then none
  else if k = 1 ∧ 1 < headV 1 s then none
  else if k < 4 then some (wrap64 (headV (szOf k) s : Nat), ⟨#[]⟩, szOf k)
  else if s.size - 2 < headV 2 s then none
  else some (0, s.extract 2 (2 + headV 2 s), 2 + headV 2 s)
def refV (k : Nat) (s : ByteArray) : Value := match refG k s with
  | none => .tuple #[.agg #[.int .i64 0, .int .i64 0, .string ⟨#[]⟩], .int .i64 0]
  | some (n, t, m) => .tuple #[.agg #[.int .i64 k, .int .i64 n, .string t], .int .i64 m]
theorem wrap_small {m : Nat} (h : m < 9223372036854775808) : wrap64 (m : Int) = m := by
  have := IntWalk.wrap64_in (n := (m : Int))
  first
  | exact this (by omega) (by omega)
  | exact this ⟨by omega, by omega⟩

set_option maxHeartbeats 4000000 in
set_option maxRecDepth 100000 in
theorem get_ref0 (s : ByteArray) (hs : s.size ≤ 140737488351232) (w : World) : Calls Try.prog 30 #[.int .i64 0, .string s] w fun e w' => e = .returned (refV 0 s) ∧ Below w.heap.size w w' := by
  obtain ⟨V, hV⟩ : ∃ V, Hid (refV 0 s = V) := ⟨_, Lib.hid rfl⟩
  rw [hV.out]
  by_cases hsz : s.size < 1
  · have ev : Hid (V = .tuple #[.agg #[.int .i64 0, .int .i64 0, .string ⟨#[]⟩], .int .i64 0]) := Lib.hid (by rw [← hV.out]; simp [refV, refG, szOf, hsz])
    go_enter Try.func30, Try.ntmps30
    go_wp2
    refine bodyPost_ret (v := .tuple #[.agg #[.int .i64 0, .int .i64 0, .string ⟨#[]⟩], .int .i64 0]) (by simp [results, Try.results30, go_sem]) rfl ?_
    exact ⟨retv ev.out.symm, below2 (below_alloc _ _) (below_alloc _ _)⟩
  · have hle : 1 ≤ s.size := by omega
    obtain ⟨t, ht⟩ : ∃ t, Hid (s.extract 0 1 = t) := ⟨_, Lib.hid rfl⟩
    obtain ⟨m, hm⟩ : ∃ m, Hid (headV 1 s = m) := ⟨_, Lib.hid rfl⟩
    have hml : m < 256 ^ 1 := by rw [← hm.out]; exact headV_lt 1 s (by omega)
    have hmt : Hid (numV t.data.toList = m) := Lib.hid (by rw [← ht.out]; exact hm.out)
    have htl : Hid (t.size ≤ 9223372036854775807) := Lib.hid (by rw [← ht.out, ByteArray.size_extract]; omega)
    have hm6 : m < 18446744073709551616 := by simpa using Nat.lt_of_lt_of_le hml (by decide)
    have hm2 : m < 256 := by simpa using hml
    clear hml
    have ev : Hid (V = .tuple #[.agg #[.int .i64 0, .int .i64 (wrap64 (m : Nat)), .string ⟨#[]⟩], .int .i64 1]) := Lib.hid (by rw [← hV.out]; simp [refV, refG, szOf, hsz, hm.out])
    have hwr := Lib.hid (wrap_small (m := m) (by omega))
    rw [hwr.out] at ev
    go_enter Try.func30, Try.ntmps30
    go_wp2_with fail
    rw [ht.out]
    refine (value_any t _ htl.out m hmt.out).mono ?_
    rintro e w1 ⟨rfl, rfl⟩
    go_wp2
    refine bodyPost_ret (v := .tuple #[.agg #[.int .i64 0, .int .i64 ((m : Nat)), .string ⟨#[]⟩], .int .i64 1]) (by simp [results, Try.results30, go_sem]) rfl ?_
    exact ⟨retv ev.out.symm, below2 (below_alloc _ _) (below_alloc _ _)⟩
set_option maxHeartbeats 4000000 in
set_option maxRecDepth 100000 in
theorem get_ref1 (s : ByteArray) (hs : s.size ≤ 140737488351232) (w : World) : Calls Try.prog 30 #[.int .i64 1, .string s] w fun e w' => e = .returned (refV 1 s) ∧ Below w.heap.size w w' := by
  obtain ⟨V, hV⟩ : ∃ V, Hid (refV 1 s = V) := ⟨_, Lib.hid rfl⟩
  rw [hV.out]
  by_cases hsz : s.size < 1
  · have ev : Hid (V = .tuple #[.agg #[.int .i64 0, .int .i64 0, .string ⟨#[]⟩], .int .i64 0]) := Lib.hid (by rw [← hV.out]; simp [refV, refG, szOf, hsz])
    go_enter Try.func30, Try.ntmps30
    go_wp2
    refine bodyPost_ret (v := .tuple #[.agg #[.int .i64 0, .int .i64 0, .string ⟨#[]⟩], .int .i64 0]) (by simp [results, Try.results30, go_sem]) rfl ?_
    exact ⟨retv ev.out.symm, below2 (below_alloc _ _) (below_alloc _ _)⟩
  · have hle : 1 ≤ s.size := by omega
    obtain ⟨t, ht⟩ : ∃ t, Hid (s.extract 0 1 = t) := ⟨_, Lib.hid rfl⟩
    obtain ⟨m, hm⟩ : ∃ m, Hid (headV 1 s = m) := ⟨_, Lib.hid rfl⟩
    have hml : m < 256 ^ 1 := by rw [← hm.out]; exact headV_lt 1 s (by omega)
    have hmt : Hid (numV t.data.toList = m) := Lib.hid (by rw [← ht.out]; exact hm.out)
    have htl : Hid (t.size ≤ 9223372036854775807) := Lib.hid (by rw [← ht.out, ByteArray.size_extract]; omega)
    have hm6 : m < 18446744073709551616 := by simpa using Nat.lt_of_lt_of_le hml (by decide)
    have hm2 : m < 256 := by simpa using hml
    clear hml
    by_cases h1 : 1 < m
    · have ev : Hid (V = .tuple #[.agg #[.int .i64 0, .int .i64 0, .string ⟨#[]⟩], .int .i64 0]) := Lib.hid (by rw [← hV.out]; simp [refV, refG, szOf, hsz, hm.out, h1])
      have h1' : (1 : Int) < (m : Int) := by omega
      go_enter Try.func30, Try.ntmps30
      go_wp2_with fail
      rw [ht.out]
      refine (value_any t _ htl.out m hmt.out).mono ?_
      rintro e w1 ⟨rfl, rfl⟩
      go_wp2
      refine bodyPost_ret (v := .tuple #[.agg #[.int .i64 0, .int .i64 0, .string ⟨#[]⟩], .int .i64 0]) (by simp [results, Try.results30, go_sem]) rfl ?_
      exact ⟨retv ev.out.symm, below2 (below_alloc _ _) (below_alloc _ _)⟩
    · have hwr := Lib.hid (wrap_small (m := m) (by omega))
      have ev : Hid (V = .tuple #[.agg #[.int .i64 1, .int .i64 (m : Nat), .string ⟨#[]⟩], .int .i64 1]) := Lib.hid (by rw [← hV.out]; simp [refV, refG, szOf, hsz, hm.out, h1, hwr.out])
      have h1' : ¬ (1 : Int) < (m : Int) := by omega
      go_enter Try.func30, Try.ntmps30
      go_wp2_with fail
      rw [ht.out]
      refine (value_any t _ htl.out m hmt.out).mono ?_
      rintro e w1 ⟨rfl, rfl⟩
      go_wp2
      refine bodyPost_ret (v := .tuple #[.agg #[.int .i64 1, .int .i64 (m : Nat), .string ⟨#[]⟩], .int .i64 1]) (by simp [results, Try.results30, go_sem]) rfl ?_
      exact ⟨retv ev.out.symm, below2 (below_alloc _ _) (below_alloc _ _)⟩
set_option maxHeartbeats 4000000 in
set_option maxRecDepth 100000 in
theorem get_ref2 (s : ByteArray) (hs : s.size ≤ 140737488351232) (w : World) : Calls Try.prog 30 #[.int .i64 2, .string s] w fun e w' => e = .returned (refV 2 s) ∧ Below w.heap.size w w' := by
  obtain ⟨V, hV⟩ : ∃ V, Hid (refV 2 s = V) := ⟨_, Lib.hid rfl⟩
  rw [hV.out]
  by_cases hsz : s.size < 2
  · have ev : Hid (V = .tuple #[.agg #[.int .i64 0, .int .i64 0, .string ⟨#[]⟩], .int .i64 0]) := Lib.hid (by rw [← hV.out]; simp [refV, refG, szOf, hsz])
    go_enter Try.func30, Try.ntmps30
    go_wp2
    refine bodyPost_ret (v := .tuple #[.agg #[.int .i64 0, .int .i64 0, .string ⟨#[]⟩], .int .i64 0]) (by simp [results, Try.results30, go_sem]) rfl ?_
    exact ⟨retv ev.out.symm, below2 (below_alloc _ _) (below_alloc _ _)⟩
  · have hle : 2 ≤ s.size := by omega
    obtain ⟨t, ht⟩ : ∃ t, Hid (s.extract 0 2 = t) := ⟨_, Lib.hid rfl⟩
    obtain ⟨m, hm⟩ : ∃ m, Hid (headV 2 s = m) := ⟨_, Lib.hid rfl⟩
    have hml : m < 256 ^ 2 := by rw [← hm.out]; exact headV_lt 2 s (by omega)
    have hmt : Hid (numV t.data.toList = m) := Lib.hid (by rw [← ht.out]; exact hm.out)
    have htl : Hid (t.size ≤ 9223372036854775807) := Lib.hid (by rw [← ht.out, ByteArray.size_extract]; omega)
    have hm6 : m < 18446744073709551616 := by simpa using Nat.lt_of_lt_of_le hml (by decide)
    have hm2 : m < 65536 := by simpa using hml
    clear hml
    have ev : Hid (V = .tuple #[.agg #[.int .i64 2, .int .i64 (wrap64 (m : Nat)), .string ⟨#[]⟩], .int .i64 2]) := Lib.hid (by rw [← hV.out]; simp [refV, refG, szOf, hsz, hm.out])
    have hwr := Lib.hid (wrap_small (m := m) (by omega))
    rw [hwr.out] at ev
    go_enter Try.func30, Try.ntmps30
    go_wp2_with fail
    rw [ht.out]
    refine (value_any t _ htl.out m hmt.out).mono ?_
    rintro e w1 ⟨rfl, rfl⟩
    go_wp2
    refine bodyPost_ret (v := .tuple #[.agg #[.int .i64 2, .int .i64 ((m : Nat)), .string ⟨#[]⟩], .int .i64 2]) (by simp [results, Try.results30, go_sem]) rfl ?_
    exact ⟨retv ev.out.symm, below2 (below_alloc _ _) (below_alloc _ _)⟩
set_option maxHeartbeats 4000000 in
set_option maxRecDepth 100000 in
theorem get_ref3 (s : ByteArray) (hs : s.size ≤ 140737488351232) (w : World) : Calls Try.prog 30 #[.int .i64 3, .string s] w fun e w' => e = .returned (refV 3 s) ∧ Below w.heap.size w w' := by
  obtain ⟨V, hV⟩ : ∃ V, Hid (refV 3 s = V) := ⟨_, Lib.hid rfl⟩
  rw [hV.out]
  by_cases hsz : s.size < 8
  · have ev : Hid (V = .tuple #[.agg #[.int .i64 0, .int .i64 0, .string ⟨#[]⟩], .int .i64 0]) := Lib.hid (by rw [← hV.out]; simp [refV, refG, szOf, hsz])
    go_enter Try.func30, Try.ntmps30
    go_wp2
    refine bodyPost_ret (v := .tuple #[.agg #[.int .i64 0, .int .i64 0, .string ⟨#[]⟩], .int .i64 0]) (by simp [results, Try.results30, go_sem]) rfl ?_
    exact ⟨retv ev.out.symm, below2 (below_alloc _ _) (below_alloc _ _)⟩
  · have hle : 8 ≤ s.size := by omega
    obtain ⟨t, ht⟩ : ∃ t, Hid (s.extract 0 8 = t) := ⟨_, Lib.hid rfl⟩
    obtain ⟨m, hm⟩ : ∃ m, Hid (headV 8 s = m) := ⟨_, Lib.hid rfl⟩
    have hml : m < 256 ^ 8 := by rw [← hm.out]; exact headV_lt 8 s (by omega)
    have hmt : Hid (numV t.data.toList = m) := Lib.hid (by rw [← ht.out]; exact hm.out)
    have htl : Hid (t.size ≤ 9223372036854775807) := Lib.hid (by rw [← ht.out, ByteArray.size_extract]; omega)
    have hm6 : m < 18446744073709551616 := by simpa using Nat.lt_of_lt_of_le hml (by decide)
    clear hml
    have ev : Hid (V = .tuple #[.agg #[.int .i64 3, .int .i64 (wrap64 (m : Nat)), .string ⟨#[]⟩], .int .i64 8]) := Lib.hid (by rw [← hV.out]; simp [refV, refG, szOf, hsz, hm.out])
    go_enter Try.func30, Try.ntmps30
    go_wp2_with fail
    rw [ht.out]
    refine (value_any t _ htl.out m hmt.out).mono ?_
    rintro e w1 ⟨rfl, rfl⟩
    go_wp2
    refine bodyPost_ret (v := .tuple #[.agg #[.int .i64 3, .int .i64 (wrap64 (m : Nat)), .string ⟨#[]⟩], .int .i64 8]) (by simp [results, Try.results30, go_sem]) rfl ?_
    exact ⟨retv ev.out.symm, below2 (below_alloc _ _) (below_alloc _ _)⟩
set_option maxHeartbeats 4000000 in
set_option maxRecDepth 100000 in
theorem get_ref4 (s : ByteArray) (hs : s.size ≤ 140737488351232) (w : World) : Calls Try.prog 30 #[.int .i64 4, .string s] w fun e w' => e = .returned (refV 4 s) ∧ Below w.heap.size w w' := by
  obtain ⟨V, hV⟩ : ∃ V, Hid (refV 4 s = V) := ⟨_, Lib.hid rfl⟩
  rw [hV.out]
  by_cases hsz : s.size < 2
  · have ev : Hid (V = .tuple #[.agg #[.int .i64 0, .int .i64 0, .string ⟨#[]⟩], .int .i64 0]) := Lib.hid (by rw [← hV.out]; simp [refV, refG, szOf, hsz])
    go_enter Try.func30, Try.ntmps30
    go_wp2
    refine bodyPost_ret (v := .tuple #[.agg #[.int .i64 0, .int .i64 0, .string ⟨#[]⟩], .int .i64 0]) (by simp [results, Try.results30, go_sem]) rfl ?_
    exact ⟨retv ev.out.symm, below2 (below_alloc _ _) (below_alloc _ _)⟩
  · have hle : 2 ≤ s.size := by omega
    obtain ⟨t, ht⟩ : ∃ t, Hid (s.extract 0 2 = t) := ⟨_, Lib.hid rfl⟩
    obtain ⟨m, hm⟩ : ∃ m, Hid (headV 2 s = m) := ⟨_, Lib.hid rfl⟩
    have hml : m < 256 ^ 2 := by rw [← hm.out]; exact headV_lt 2 s (by omega)
    have hmt : Hid (numV t.data.toList = m) := Lib.hid (by rw [← ht.out]; exact hm.out)
    have htl : Hid (t.size ≤ 9223372036854775807) := Lib.hid (by rw [← ht.out, ByteArray.size_extract]; omega)
    have hm6 : m < 18446744073709551616 := by simpa using Nat.lt_of_lt_of_le hml (by decide)
    have hm2 : m < 65536 := by simpa using hml
    clear hml
    by_cases h1 : s.size - 2 < m
    · have ev : Hid (V = .tuple #[.agg #[.int .i64 0, .int .i64 0, .string ⟨#[]⟩], .int .i64 0]) := Lib.hid (by rw [← hV.out]; simp [refV, refG, szOf, hsz, hm.out, h1])
      have h1' : (s.size : Int) - 2 < (m : Int) := by omega
      clear h1
      go_enter Try.func30, Try.ntmps30
      go_wp2_with fail
      rw [ht.out]
      refine (value_any t _ htl.out m hmt.out).mono ?_
      rintro e w1 ⟨rfl, rfl⟩
      go_wp2
      refine bodyPost_ret (v := .tuple #[.agg #[.int .i64 0, .int .i64 0, .string ⟨#[]⟩], .int .i64 0]) (by simp [results, Try.results30, go_sem]) rfl ?_
      exact ⟨retv ev.out.symm, below2 (below_alloc _ _) (below_alloc _ _)⟩
    · have ev : Hid (V = .tuple #[.agg #[.int .i64 4, .int .i64 0, .string (s.extract 2 (2 + m))], .int .i64 (2 + m : Nat)]) := Lib.hid (by rw [← hV.out]; simp [refV, refG, szOf, hsz, hm.out, h1])
      have h1' : ¬ (s.size : Int) - 2 < (m : Int) := by omega
      have h2' : 2 + m ≤ s.size := by omega
      clear h1
      go_enter Try.func30, Try.ntmps30
      go_wp2_with fail
      rw [ht.out]
      refine (value_any t _ htl.out m hmt.out).mono ?_
      rintro e w1 ⟨rfl, rfl⟩
      go_wp2
      refine bodyPost_ret (v := .tuple #[.agg #[.int .i64 4, .int .i64 0, .string (s.extract 2 (2 + m))], .int .i64 (2 + m : Nat)]) (by simp [results, Try.results30, go_sem]) rfl ?_
      exact ⟨retv ev.out.symm, below2 (below_alloc _ _) (below_alloc _ _)⟩
end Go.Proofs.Ytfpocddpnoighaa.Wr

/- The walk of the law on windows. -/
import Derived.Test.YtljdiaokjocfpaaCrcD
import Derived.Test.YtljdiaokjocfpaaR
namespace Go.Proofs.Ytljdiaokjocfpaa.Crc
open Go.RowKit Go.Proofs.Ytljdiaokjocfpaa.L Go.Proofs.Ytljdiaokjocfpaa.O Go.Proofs.Ytljdiaokjocfpaa.R
set_option linter.unusedVariables false
set_option linter.unusedSimpArgs false

def bn (s : ByteArray) (j : Nat) : Nat := (s.data.toList.getD j 0).toNat
theorem bn_lt (s : ByteArray) (j : Nat) : bn s j < 256 := UInt8.toNat_lt _
/-- the byte that goes in at place k. -/
def yk (by_ k : Nat) : Nat := by_ / 2 ^ (8 * k) % 256
theorem yk_lt (b k : Nat) : yk b k < 256 := Nat.mod_lt _ (by decide)
def Dn (s : ByteArray) (at_ by_ i j : Nat) : Nat := if at_ ≤ j ∧ j < at_ + i then bn s j ^^^ yk by_ (j - at_) else bn s j
theorem Dn_lt (s : ByteArray) (at_ by_ i j : Nat) : Dn s at_ by_ i j < 256 := by
  unfold Dn
  split
  · exact Nat.xor_lt_two_pow (n := 8) (bn_lt _ _) (yk_lt _ _)
  · exact bn_lt _ _
def chg (by_ i : Nat) : Bool := (List.range i).any fun k => yk by_ k != 0

theorem Dn_zero (s : ByteArray) (at_ by_ j : Nat) : byteAt s j = ((Dn s at_ by_ 0 j : Nat) : Int) := by
  unfold Dn
  rw [if_neg (by omega)]
  rfl
theorem yk_int (by_ k : Nat) : ((by_ : Int) / 2 ^ (8 * k) % 256) = ((yk by_ k : Nat) : Int) := by
  unfold yk
  rw [Int.natCast_emod, Int.natCast_ediv, Int.natCast_pow]; rfl
theorem Dn_step (s : ByteArray) (at_ by_ k j : Nat) : (if j = at_ + k then bits .xor .u8 ((Dn s at_ by_ k (at_ + k) : Nat) : Int) ((by_ : Int) / 2 ^ (8 * k) % 256) else ((Dn s at_ by_ k j : Nat) : Int)) = ((Dn s at_ by_ (k + 1) j : Nat) : Int) := by
  rw [yk_int, bits_xor8 _ _ (Dn_lt _ _ _ _ _) (yk_lt _ _)]
  by_cases h : j = at_ + k
  · subst h
    simp [Dn]
  · rw [if_neg h]
    unfold Dn
    have : (at_ ≤ j ∧ j < at_ + k) ↔ (at_ ≤ j ∧ j < at_ + (k + 1)) := by omega
    simp only [this]
theorem chg_step (by_ k : Nat) : chg by_ (k + 1) = (chg by_ k || (((by_ : Int) / 2 ^ (8 * k) % 256) != 0)) := by
  unfold chg
  rw [List.range_succ, List.any_append, yk_int]
  congr 1
  by_cases h : yk by_ k = 0
  · simp [h]
  · have : ((yk by_ k : Nat) : Int) ≠ 0 := by omega
    have h1 : (((yk by_ k : Nat) : Int) == 0) = false := by simpa using h
    simp [h, bne, h1]
/-- the text behind m rounds. -/
def outS (s : ByteArray) (at_ by_ m : Nat) : ByteArray := strOfNums ((List.range s.size).map fun j => ((Dn s at_ by_ m j : Nat) : Int))

theorem outS_size (s : ByteArray) (at_ by_ m : Nat) : (outS s at_ by_ m).size = s.size := by
  unfold outS strOfNums
  show Array.size _ = _
  simp
set_option maxHeartbeats 1000000 in
theorem tells_go (w : World) (s : ByteArray) (at_ by_ : Nat) (hs : s.size ≤ 3000) (ha : at_ < s.size) (hb : by_ < 2 ^ 32)
    (hlaw : ∀ m, (m = 4 ∧ at_ + m ≤ s.size) ∨ (m ≤ 4 ∧ at_ + m = s.size) → ((((more 0 (sbs [s]) : Nat) : Int) != ((more 0 (sbs [outS s at_ by_ m]) : Nat) : Int)) == chg by_ m) = true) :
    Calls Try.prog 5 #[.string s, .int .i64 at_, .int .u32 by_] w fun e w' => e = .returned (.bool true) ∧ Below w.heap.size w w' := by
  have HLaw := Lib.hid hlaw
  clear hlaw
  go_enter Try.func5, Try.ntmps5
  go_wp2_with fail
  refine (awake_any _).mono ?_
  rintro e w1 ⟨rfl, hb1⟩
  go_wp2_with (refine wpList_of_string rfl 9 31 5 _ rfl s rfl (by kernel_rfl) (by kernel_rfl) (by kernel_rfl) ?_; intro w2 cap hB hz2 hb2)
  go_loopw [8, 9, 10] (fun c i x wr => ∃ k : Nat, k ≤ 4 ∧ at_ + k ≤ s.size ∧ i = .int .i64 k ∧ c = .bool (chg by_ k) ∧ IsBytes wr w1.heap.size 5 cap (fun j => (Dn s at_ by_ k j : Nat)) s.size ∧ Below w1.heap.size w1 wr) (fun _ i _ _ => 4 - (intOf i).toNat)
  case atStart => exact ⟨0, by omega, by omega, rfl, rfl, hB.congr (fun j _ => Dn_zero s at_ by_ j), hb2⟩
  case round =>
    obtain ⟨k, hk, hk2, rfl, rfl, hB2, hb3⟩ := hrel
    have HB := Lib.hid hB2
    by_cases hgo : k < 4 ∧ at_ + k < s.size
    · obtain ⟨h4, hin⟩ := hgo
      have hc := hB2.cell hin
      have hf := hB2.free hin
      clear hB2
      have e2 : ((at_ : Int) + k).toNat = at_ + k := by omega
      have hcs := Lib.hid (chg_step by_ k)
      go_wp2
      · rename_i hch
        go_roundw
        case rel => exact ⟨k + 1, by omega, by omega, by go_num, by rw [hcs.out, hch]; rfl, (HB.out.set hin _).congr fun j _ => Dn_step s at_ by_ k j, hb3.setCell (Nat.le_refl _) _⟩
        case measure => simp [intOf]; omega
      · rename_i hch
        have hch' : chg by_ k = false := by simpa using hch
        go_roundw
        case rel => exact ⟨k + 1, by omega, by omega, by go_num, by rw [hcs.out, hch']; rfl, (HB.out.set hin _).congr fun j _ => Dn_step s at_ by_ k j, hb3.setCell (Nat.le_refl _) _⟩
        case measure => simp [intOf]; omega
    · have hk' : (k = 4 ∧ at_ + k ≤ s.size) ∨ (k ≤ 4 ∧ at_ + k = s.size) := by omega
      have hl := HLaw.out k hk'
      have Hl := Lib.hid hl
      clear hl hgo hB2
      have kb : ∀ W : World, Below wr.heap.size wr W → (convert 31 9 (.slice (some ⟨w1.heap.size, 0, none⟩) s.size cap)).run Try.prog W = .ok (.string (outS s at_ by_ k)) W := by
        intro W hW
        refine run_convert_bytes_arg W 31 5 (by kernel_rfl) (by kernel_rfl) w1.heap.size 0 s.size cap _ (by simp) (fun i hi => ?_) 9 (by kernel_rfl)
        rw [Nat.zero_add]
        have h1 := HB.out.cell hi
        rw [(hW.cell (p := ⟨w1.heap.size, i, none⟩) HB.out.lt).trans h1]
        simp [hi]
      have KB := Lib.hid kb
      have hos : (outS s at_ by_ k).size ≤ 140737488351232 := by rw [outS_size]; omega
      clear kb
      go_wp2
      all_goals
        refine wp_region_one (fun _ => True) (fun u v => Below u.heap.size u v) (fun a i => match i with
            | 0 => (fun v _ => v = a.tmps.getD 0 undef)
            | 1 => (fun v w => ∃ g, v = .slice (some ⟨g, 0, none⟩) 1 1 ∧ g < w.heap.size ∧ w.cell? ⟨g, 0, none⟩ = some (.string (s)))
            | 2 => (fun v _ => v = .int .u32 ((more 0 (sbs [s]) : Nat) : Int))
            | 3 => (fun v _ => v = a.tmps.getD 7 undef)
            | 4 => (fun v _ => v = .string (outS s at_ by_ k))
            | 5 => (fun v w => ∃ g, v = .slice (some ⟨g, 0, none⟩) 1 1 ∧ g < w.heap.size ∧ w.cell? ⟨g, 0, none⟩ = some (.string (outS s at_ by_ k)))
            | 6 => (fun v _ => v = .int .u32 ((more 0 (sbs [outS s at_ by_ k]) : Nat) : Int))
            | 7 => (fun v _ => v = .bool ((((more 0 (sbs [s]) : Nat) : Int)) != ((more 0 (sbs [outS s at_ by_ k]) : Nat) : Int)))
            | 8 => (fun v _ => v = a.tmps.getD 8 undef)
            | 9 => (fun v _ => v = .bool (((((more 0 (sbs [s]) : Nat) : Int)) != ((more 0 (sbs [outS s at_ by_ k]) : Nat) : Int)) == chg by_ k))
            | 10 => (fun v _ => v = .bool (((((more 0 (sbs [s]) : Nat) : Int)) != ((more 0 (sbs [outS s at_ by_ k]) : Nat) : Int)) == chg by_ k))
            | _ => (fun _ _ => True)) #[0, 1, 3, 0, 8, 24, 63, 127, 0, 511, 1023] #[0, 1, 2, 0, 8, 16, 32, 68, 0, 384, 512] 2013 (by kernel_rfl) 11 rfl (fun m hm => by subst hm; kernel_rfl) (by kernel_rfl) (fun w => Below.refl _ _) (fun u v w h1 h2 => below2 h1 h2) ?_ (trivial) ?_ ?_
        · intro i hi
          rcases (by omega : i = 0 ∨ i = 1 ∨ i = 2 ∨ i = 3 ∨ i = 4 ∨ i = 5 ∨ i = 6 ∨ i = 7 ∨ i = 8 ∨ i = 9 ∨ i = 10) with rfl | rfl | rfl | rfl | rfl | rfl | rfl | rfl | rfl | rfl | rfl
          · exact fun v w w' h hr => by exact h
          · exact fun v w w' h hr => by obtain ⟨g, h1, h2, h3⟩ := h; exact ⟨g, h1, Nat.lt_of_lt_of_le h2 hr.size, (hr.cell (p := ⟨g, 0, none⟩) h2).trans h3⟩
          · exact fun v w w' h hr => by exact h
          · exact fun v w w' h hr => by exact h
          · exact fun v w w' h hr => by exact h
          · exact fun v w w' h hr => by obtain ⟨g, h1, h2, h3⟩ := h; exact ⟨g, h1, Nat.lt_of_lt_of_le h2 hr.size, (hr.cell (p := ⟨g, 0, none⟩) h2).trans h3⟩
          · exact fun v w w' h hr => by exact h
          · exact fun v w w' h hr => by exact h
          · exact fun v w w' h hr => by exact h
          · exact fun v w w' h hr => by exact h
          · exact fun v w w' h hr => by exact h
        · intro i hi
          rcases (by omega : i = 0 ∨ i = 1 ∨ i = 2 ∨ i = 3 ∨ i = 4 ∨ i = 5 ∨ i = 6 ∨ i = 7 ∨ i = 8 ∨ i = 9 ∨ i = 10) with rfl | rfl | rfl | rfl | rfl | rfl | rfl | rfl | rfl | rfl | rfl
          · -- 0: Op.move (Operand.tmp 0)
            intro l hl vs W hS hR hp
            obtain rfl : l = [] := hl.symm.trans (by kernel_rfl)
            clear hp hl
            refine opgoal (_) (some 60) rfl rfl fun K hK => ?_
            refine Runs.mk ?_
            simp only [putAll]
            go_simp
            refine hK _ _ ?_ hS ((fun w => Below.refl _ _) W) _ rfl rfl
            first | rfl | go_simp | simp
          · -- 1: Op.buildSlice 22 1 #[(0, Operand.tmp 60)]
            intro l hl vs W hS hR hp
            obtain rfl : l = [(0, 60)] := hl.symm.trans (by kernel_rfl)
            have p0 : vs 0 = _ := hp 0 (by decide) (by decide)
            clear hp hl
            refine opgoal (_) (some 61) rfl rfl fun K hK => ?_
            refine Runs.mk ?_
            simp only [putAll]
            go_simp
            refine hK _ _ ?_ hS ((Below.refl _ _).alloc (Nat.le_refl _) _) _ rfl rfl
            refine ⟨W.heap.size, rfl, by simp, by go_simp⟩
          · -- 2: Op.call { callee := Callee.value (Operand.func 15), args := #[Operand.tmp 61], argTypes := #[22] }
            intro l hl vs W hS hR hp
            obtain rfl : l = [(0, 60), (1, 61)] := hl.symm.trans (by kernel_rfl)
            have p1 : (fun v w => ∃ g, v = .slice (some ⟨g, 0, none⟩) 1 1 ∧ g < w.heap.size ∧ w.cell? ⟨g, 0, none⟩ = some (.string (s))) (vs 1) W := hp 1 (by decide) (by decide)
            dsimp only at p1
            clear hp hl
            obtain ⟨g1, q1, l1, c1⟩ := p1
            refine opgoal (_) (some 62) rfl rfl fun K hK => ?_
            refine Runs.mk ?_
            simp only [putAll]
            go_simp
            refine (sum_any _ _ _ [s] _ (rd_one c1) (by simp; omega)).mono ?_
            rintro e w' ⟨rfl, hbx⟩
            go_simp
            exact hK _ _ rfl hS hbx _ rfl rfl
          · -- 3: Op.move (Operand.tmp 7)
            intro l hl vs W hS hR hp
            obtain rfl : l = [] := hl.symm.trans (by kernel_rfl)
            clear hp hl
            refine opgoal (_) (some 63) rfl rfl fun K hK => ?_
            refine Runs.mk ?_
            simp only [putAll]
            go_simp
            refine hK _ _ ?_ hS ((fun w => Below.refl _ _) W) _ rfl rfl
            first | rfl | go_simp | simp
          · -- 4: Op.convert 31 9 (Operand.tmp 63)
            intro l hl vs W hS hR hp
            obtain rfl : l = [(3, 63)] := hl.symm.trans (by kernel_rfl)
            have p3 : vs 3 = _ := hp 3 (by decide) (by decide)
            clear hp hl
            refine opgoal (_) (some 64) rfl rfl fun K hK => ?_
            have kb := KB.out W (below_of_drew hR)
            refine Runs.mk ?_
            simp only [putAll]
            go_simp
            refine hK _ _ ?_ hS ((fun w => Below.refl _ _) W) _ rfl rfl
            first | rfl | go_simp | simp
          · -- 5: Op.buildSlice 22 1 #[(0, Operand.tmp 64)]
            intro l hl vs W hS hR hp
            obtain rfl : l = [(3, 63), (4, 64)] := hl.symm.trans (by kernel_rfl)
            have p4 : vs 4 = _ := hp 4 (by decide) (by decide)
            clear hp hl
            refine opgoal (_) (some 65) rfl rfl fun K hK => ?_
            refine Runs.mk ?_
            simp only [putAll]
            go_simp
            refine hK _ _ ?_ hS ((Below.refl _ _).alloc (Nat.le_refl _) _) _ rfl rfl
            refine ⟨W.heap.size, rfl, by simp, by go_simp⟩
          · -- 6: Op.call { callee := Callee.value (Operand.func 15), args := #[Operand.tmp 65], argTypes := #[22] }
            intro l hl vs W hS hR hp
            obtain rfl : l = [(0, 60), (1, 61), (2, 62), (3, 63), (4, 64), (5, 65)] := hl.symm.trans (by kernel_rfl)
            have p5 : (fun v w => ∃ g, v = .slice (some ⟨g, 0, none⟩) 1 1 ∧ g < w.heap.size ∧ w.cell? ⟨g, 0, none⟩ = some (.string (outS s at_ by_ k))) (vs 5) W := hp 5 (by decide) (by decide)
            dsimp only at p5
            clear hp hl
            obtain ⟨g5, q5, l5, c5⟩ := p5
            refine opgoal (_) (some 66) rfl rfl fun K hK => ?_
            refine Runs.mk ?_
            simp only [putAll]
            go_simp
            refine (sum_any _ _ _ [outS s at_ by_ k] _ (rd_one c5) (by simpa using hos)).mono ?_
            rintro e w' ⟨rfl, hbx⟩
            go_simp
            exact hK _ _ rfl hS hbx _ rfl rfl
          · -- 7: Op.binOp BinOp.neq 25 (Operand.tmp 62) (Operand.tmp 66) 25
            intro l hl vs W hS hR hp
            obtain rfl : l = [(0, 60), (1, 61), (2, 62), (3, 63), (4, 64), (5, 65), (6, 66)] := hl.symm.trans (by kernel_rfl)
            have p2 : vs 2 = _ := hp 2 (by decide) (by decide)
            have p6 : vs 6 = _ := hp 6 (by decide) (by decide)
            clear hp hl
            refine opgoal (_) (some 67) rfl rfl fun K hK => ?_
            refine Runs.mk ?_
            simp only [putAll]
            go_simp
            refine hK _ _ ?_ hS ((fun w => Below.refl _ _) W) _ rfl rfl
            first | rfl | go_simp | simp
          · -- 8: Op.move (Operand.tmp 8)
            intro l hl vs W hS hR hp
            obtain rfl : l = [] := hl.symm.trans (by kernel_rfl)
            clear hp hl
            refine opgoal (_) (some 68) rfl rfl fun K hK => ?_
            refine Runs.mk ?_
            simp only [putAll]
            go_simp
            refine hK _ _ ?_ hS ((fun w => Below.refl _ _) W) _ rfl rfl
            first | rfl | go_simp | simp
          · -- 9: Op.binOp BinOp.eql 4 (Operand.tmp 67) (Operand.tmp 68) 4
            intro l hl vs W hS hR hp
            obtain rfl : l = [(0, 60), (1, 61), (2, 62), (3, 63), (4, 64), (5, 65), (6, 66), (7, 67), (8, 68)] := hl.symm.trans (by kernel_rfl)
            have p7 : vs 7 = _ := hp 7 (by decide) (by decide)
            have p8 : vs 8 = _ := hp 8 (by decide) (by decide)
            clear hp hl
            refine opgoal (_) (some 69) rfl rfl fun K hK => ?_
            refine Runs.mk ?_
            simp only [putAll]
            go_simp
            refine hK _ _ ?_ hS ((fun w => Below.refl _ _) W) _ rfl rfl
            first | rfl | go_simp | simp
          · -- 10: Op.assign (Operand.tmp 69)
            intro l hl vs W hS hR hp
            obtain rfl : l = [(0, 60), (1, 61), (2, 62), (3, 63), (4, 64), (5, 65), (6, 66), (7, 67), (8, 68), (9, 69)] := hl.symm.trans (by kernel_rfl)
            have p9 : vs 9 = _ := hp 9 (by decide) (by decide)
            clear hp hl
            refine opgoal (_) (some 6) rfl rfl fun K hK => ?_
            refine Runs.mk ?_
            simp only [putAll]
            go_simp
            refine hK _ _ ?_ hS ((fun w => Below.refl _ _) W) _ rfl rfl
            first | rfl | go_simp | simp
        · intro l hl vs W hS hR hp
          obtain rfl : l = [(0, 60), (1, 61), (2, 62), (3, 63), (4, 64), (5, 65), (6, 66), (7, 67), (8, 68), (9, 69), (10, 6)] := hl.symm.trans (by kernel_rfl)
          have p0 : vs 0 = _ := hp 0 (by decide) (by decide)
          have p2 : vs 2 = _ := hp 2 (by decide) (by decide)
          have p3 : vs 3 = _ := hp 3 (by decide) (by decide)
          have p4 : vs 4 = _ := hp 4 (by decide) (by decide)
          have p6 : vs 6 = _ := hp 6 (by decide) (by decide)
          have p7 : vs 7 = _ := hp 7 (by decide) (by decide)
          have p8 : vs 8 = _ := hp 8 (by decide) (by decide)
          have p9 : vs 9 = _ := hp 9 (by decide) (by decide)
          have p10 : vs 10 = _ := hp 10 (by decide) (by decide)
          clear hp hl
          simp only [putAll]
          go_wp2
          go_ret
          exact ⟨retv (congrArg Value.bool Hl.out), below2 hb1 (hb3.trans ((below_of_drew hR).mono hb3.size))⟩

theorem sb_range (s : ByteArray) : sb s = (List.range s.size).map (bn s) := by
  apply List.ext_getElem
  · rw [sb_length]; simp
  · intro i h1 h2
    have h3 : i < s.data.toList.length := by rw [sb_length] at h1; simpa using h1
    simp [sb, bn, List.getD_eq_getElem?_getD]
    simp at h3
    simp [h3]
theorem sb_strOfNums (l : List Nat) (h : ∀ x ∈ l, x < 256) : sb (strOfNums (l.map fun (n : Nat) => (n : Int))) = l := by
  unfold sb strOfNums
  simp only [List.map_map]
  conv => rhs; rw [← List.map_id l]
  apply List.map_congr_left
  intro x hx
  have := h x hx
  simp [UInt8.toNat_ofNat']
  omega
theorem sb_out (s : ByteArray) (at_ by_ m : Nat) : sb (outS s at_ by_ m) = (List.range s.size).map (Dn s at_ by_ m) := by
  unfold outS
  have e : ((List.range s.size).map fun j => ((Dn s at_ by_ m j : Nat) : Int)) = ((List.range s.size).map (Dn s at_ by_ m)).map fun (n : Nat) => (n : Int) := by simp
  rw [e, sb_strOfNums]
  intro x hx
  simp only [List.mem_map] at hx
  obtain ⟨j, _, rfl⟩ := hx
  exact Dn_lt _ _ _ _ _
theorem range_parts (n a m : Nat) (h : a + m ≤ n) : List.range n = List.range a ++ (List.range m).map (a + ·) ++ (List.range (n - (a + m))).map (a + m + ·) := by
  have e1 : n = a + m + (n - (a + m)) := by omega
  conv => lhs; rw [e1, List.range_add, List.range_add]
theorem more_inj (x y : List Nat) (h : more 0 x = more 0 y) : bytes (0 ^^^ full) x = bytes (0 ^^^ full) y := by
  have := congrArg (· ^^^ full) h
  simpa [more, Nat.xor_assoc] using this
theorem tells_law (s : ByteArray) (at_ by_ m : Nat) (hm : m ≤ 4) (h : at_ + m ≤ s.size) :
    ((((more 0 (sbs [s]) : Nat) : Int) != ((more 0 (sbs [outS s at_ by_ m]) : Nat) : Int)) == chg by_ m) = true := by
  have e1 : sbs [s] = sb s := by simp [sbs]
  have e2 : sbs [outS s at_ by_ m] = sb (outS s at_ by_ m) := by simp [sbs]
  rw [e1, e2, sb_range, sb_out, range_parts s.size at_ m h, List.map_append, List.map_append, List.map_append, List.map_append]
  have ea : (List.range at_).map (Dn s at_ by_ m) = (List.range at_).map (bn s) := by
    apply List.map_congr_left
    intro j hj
    have := List.mem_range.1 hj
    unfold Dn
    rw [if_neg (by omega)]
  have eb : ((List.range (s.size - (at_ + m))).map (at_ + m + ·)).map (Dn s at_ by_ m) = ((List.range (s.size - (at_ + m))).map (at_ + m + ·)).map (bn s) := by
    apply List.map_congr_left
    intro j hj
    obtain ⟨i, _, rfl⟩ := List.mem_map.1 hj
    unfold Dn
    rw [if_neg (by omega)]
  rw [ea, eb]
  generalize hA : (List.range at_).map (bn s) = A
  generalize hB : ((List.range (s.size - (at_ + m))).map (at_ + m + ·)).map (bn s) = B
  generalize hX : ((List.range m).map (at_ + ·)).map (bn s) = X
  generalize hY : ((List.range m).map (at_ + ·)).map (Dn s at_ by_ m) = Y
  have lt : ∀ (f : Nat → Nat) (l : List Nat), (∀ j, f j < 256) → ∀ c ∈ l.map f, c < 256 := by
    intro f l hf c hc
    obtain ⟨j, _, rfl⟩ := List.mem_map.1 hc
    exact hf j
  have hw := window (0 ^^^ full) (by decide) A X Y B (by rw [← hX, ← hY]; simp) (by rw [← hX]; simp; exact hm) (by rw [← hA]; exact lt _ _ (bn_lt s)) (by rw [← hX]; exact lt _ _ (bn_lt s)) (by rw [← hY]; exact lt _ _ (Dn_lt s at_ by_ m)) (by rw [← hB]; exact lt _ _ (bn_lt s))
  have hXY : X = Y ↔ chg by_ m = false := by
    rw [← hX, ← hY]
    unfold chg
    rw [List.any_eq_false]
    constructor
    · intro e k hk
      have hkm := List.mem_range.1 hk
      have := congrArg (fun l => l[k]?) e
      simp [hkm] at this
      unfold Dn at this
      rw [if_pos (by omega)] at this
      have e3 : at_ + k - at_ = k := by omega
      rw [e3] at this
      have := congrArg (bn s (at_ + k) ^^^ ·) this
      simp only [Nat.xor_self, ← Nat.xor_assoc, Nat.zero_xor] at this
      simp [← this]
    · intro e
      apply List.map_congr_left
      intro j hj
      obtain ⟨k, hk, rfl⟩ := List.mem_map.1 hj
      have hkm := List.mem_range.1 hk
      have := e k hk
      unfold Dn
      rw [if_pos (by omega)]
      have e3 : at_ + k - at_ = k := by omega
      rw [e3]
      simp at this
      rw [this, Nat.xor_zero]
  cases hc : chg by_ m with
  | false =>
    have := hXY.2 hc
    subst this
    simp
  | true =>
    have hne : X ≠ Y := fun e => by rw [hXY.1 e] at hc; cases hc
    have : more 0 (A ++ X ++ B) ≠ more 0 (A ++ Y ++ B) := fun e => hne (hw.1 (more_inj _ _ e))
    have h2 : ((more 0 (A ++ X ++ B) : Nat) : Int) ≠ ((more 0 (A ++ Y ++ B) : Nat) : Int) := by omega
    simp only [bne, beq_true]
    simpa using h2
theorem i64_range {n : Int} (h : (Lit.int .i64 n).wf = true) : -9223372036854775808 ≤ n ∧ n ≤ 9223372036854775807 := by
  simp [Lit.wf, IntKind.min, IntKind.max, IntKind.signed, IntKind.bits] at h
  omega
set_option maxHeartbeats 400000 in
theorem tells_walk (w : World) (s : ByteArray) (at_ by_ : Int) (hz : s.size ≤ 140737488351232) (ha : (Lit.int .i64 at_).wf = true) (hb : (Lit.int .u32 by_).wf = true) :
    Calls Try.prog 5 #[.string s, .int .i64 at_, .int .u32 by_] w fun e w' => e = .returned (.bool true) ∧ Below w.heap.size w w' := by
  by_cases hs : s.size ≤ 3000
  · by_cases h0 : 0 ≤ at_
    · by_cases h1 : at_ < s.size
      · obtain ⟨a, rfl⟩ := Int.eq_ofNat_of_zero_le h0
        have hb' := u32_range hb
        obtain ⟨b, rfl⟩ := Int.eq_ofNat_of_zero_le hb'.1
        exact tells_go w s a b hs (by omega) (by omega) fun m hm => tells_law s a b m (by omega) (by omega)
      · have HA := Lib.hid ha
        clear ha hb
        have h1' : (s.size : Int) ≤ at_ := by omega
        clear h1
        go_enter Try.func5, Try.ntmps5
        go_wp2_with fail
        refine (awake_any _).mono ?_
        rintro e w1 ⟨rfl, hb1⟩
        go_wp2_with fail
        go_ret
        exact ⟨rfl, hb1⟩
    · clear ha hb
      have h0' : at_ < 0 := by omega
      clear h0
      go_enter Try.func5, Try.ntmps5
      go_wp2_with fail
      refine (awake_any _).mono ?_
      rintro e w1 ⟨rfl, hb1⟩
      go_wp2_with fail
      go_ret
      exact ⟨rfl, hb1⟩
  · clear ha hb
    have hs' : (3000 : Int) < s.size := by omega
    go_enter Try.func5, Try.ntmps5
    go_wp2_with fail
    refine (awake_any _).mono ?_
    rintro e w1 ⟨rfl, hb1⟩
    go_wp2_with fail
    go_ret
    exact ⟨rfl, hb1⟩
end Go.Proofs.Ytljdiaokjocfpaa.Crc

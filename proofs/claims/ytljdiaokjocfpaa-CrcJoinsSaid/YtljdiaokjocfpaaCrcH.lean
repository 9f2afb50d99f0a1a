/- The table of half bytes. -/
import Derived.Test.YtljdiaokjocfpaaCrcA
namespace Go.Proofs.Ytljdiaokjocfpaa.Crc
open Go.RowKit Go.Proofs.Ytljdiaokjocfpaa.L
set_option linter.unusedVariables false
set_option linter.unusedSimpArgs false
def tabAt (k : Nat) : Array Value := Array.ofFn (n := 16) fun j => .int .u32 (if j.val < k then ((f4 j.val : Nat) : Int) else 0)
theorem tab_size (k : Nat) : (tabAt k).size = 16 := by simp [tabAt]
theorem tab_cell (k j : Nat) (h : j < 16) : (tabAt k)[j]? = some (.int .u32 (if j < k then ((f4 j : Nat) : Int) else 0)) := by
  unfold tabAt; rw [Array.getElem?_eq_getElem (by simpa using h), Array.getElem_ofFn]
theorem tab_set (k : Nat) (hk : k < 16) : (tabAt k).setIfInBounds k (.int .u32 ((f4 k : Nat) : Int)) = tabAt (k + 1) := by
  apply Array.ext_getElem?
  intro i
  rw [Array.getElem?_setIfInBounds, tab_size]
  by_cases hi : i < 16
  · rw [tab_cell _ i hi, tab_cell _ i hi]
    by_cases h : k = i
    · subst h; simp [hk]
    · have : (i < k + 1) = (i < k) := by apply propext; omega
      simp [h, this]
  · have h1 : (tabAt k)[i]? = none := by simp [tab_size]; omega
    have h2 : (tabAt (k + 1))[i]? = none := by simp [tab_size]; omega
    rw [h1, h2]
    by_cases h : k = i
    · omega
    · simp [h]
theorem tab_one (k : Nat) : ∀ u ∈ (Value.agg (tabAt k)).cells.toList, u.oneCell' = true := by
  intro u hu
  have hu' : u ∈ tabAt k := by simpa [Value.cells] using hu
  unfold tabAt at hu'
  obtain ⟨i, hi, h⟩ := Array.getElem_of_mem hu'
  rw [Array.getElem_ofFn] at h
  subst h
  rfl
theorem tab_all (z : Array Value) (hz : z.size = 16) : (z.toList.take 0 ++ (Value.agg (tabAt 16)).cells.toList ++ z.toList.drop (0 + (Value.agg (tabAt 16)).cells.size)).toArray = tabAt 16 := by
  simp [Value.cells, tab_size, List.drop_eq_nil_of_le, hz]
theorem tab_ext : (tabAt 16).extract 0 (0 + 16) = tabAt 16 := by
  have h := Array.extract_size (xs := tabAt 16)
  rwa [tab_size 16] at h
theorem Try.und84 : Try.prog.underlying 84 = some (.array 16 25) := by kernel_rfl
theorem Try.siz84 : (Try.prog.info? 84).map (·.size) = some 16 := by kernel_rfl
theorem halves_any (w : World) :
    Calls Try.prog 41 #[] w fun e w' => e = .returned (.agg (tabAt 16)) ∧ Below w.heap.size w w' := by
  go_enter Try.func41, Try.ntmps41
  go_wp2
  go_loopw [2, 3] (fun i' i wr => ∃ k : Nat, k ≤ 16 ∧ i = .int .i64 k ∧ wr.heap[w.heap.size + 1]? = some (.cells (tabAt k) 84 (0, 0)) ∧ (∃ z, z.size = 16 ∧ wr.heap[w.heap.size]? = some (.cells z 84 (0, 0))) ∧ Below w.heap.size w wr) (fun _ i _ => 16 - (intOf i).toNat)
  case atStart =>
    refine ⟨0, by omega, rfl, ?_, ⟨_, ?_, heap_alloc2_old _ _ _⟩, ?_⟩
    · exact heap_alloc2_new _ _ _
    · rfl
    · exact ((Below.refl _ _).alloc (Nat.le_refl _) _).alloc (by simp) _
  case round =>
    obtain ⟨k, hk, rfl, hb, ⟨z, hz, hz2⟩, hbl⟩ := hrel
    by_cases hlt : k < 16
    · have hc : wr.cell? ⟨w.heap.size + 1, k, none⟩ = some (.int .u32 (if k < k then ((f4 k : Nat) : Int) else 0)) := by rw [cell_of_row wr _ k _ _ _ hb]; exact tab_cell k k hlt
      have hf : wr.frozen? ⟨w.heap.size + 1, k, none⟩ = false := frozen_of_row wr _ _ _ _ hb
      go_wp2_with (go_at_call 49; refine (step_any k _ (by omega)).mono ?_; rintro e w' ⟨rfl, rfl⟩)
      all_goals go_roundw
      case rel =>
        refine ⟨k + 1, by omega, by go_num, ?_, ⟨z, hz, ?_⟩, hbl.setCell (by simp) _⟩
        · rw [heap_setCell_same _ _ _ _ _ _ hb, tab_set k hlt]
        · rw [heap_setCell_other _ _ _ _ (by simp), hz2]
      case measure => simp [intOf]; omega
    · have : k = 16 := by omega
      subst this
      clear hlt hk
      have h0 : 0 + 16 ≤ (tabAt 16).size := by rw [tab_size]; omega
      have h3 : (Try.prog.info? 84).map (·.size) = some (Value.agg (tabAt 16)).cells.size := by rw [Try.siz84]; simp [Value.cells, tab_size]
      have h2 : 0 + (Value.agg (tabAt 16)).cells.size ≤ z.size := by simp [Value.cells, tab_size, hz]
      go_wp2_with (first | (refine wpList_load_blk rfl 84 _ rfl (w.heap.size + 1) 0 16 rfl _ (tabAt 16) _ _ hb Try.und84 rfl Try.siz84 h0 (tabAt 16) tab_ext ?_) | (refine wpList_store_blk rfl 84 _ _ rfl w.heap.size 0 rfl _ z _ rfl hz2 h3 h2 (tab_one 16) (tabAt 16) (tab_all z hz) ?_; intro w2 hr hu))
      exact bodyPost_ret (v := .agg (tabAt 16)) (results_cell_row rfl _ _ w.heap.size 84 (tabAt 16) (0, 0) _ rfl hr Try.und84 rfl (by rw [Try.siz84, tab_size])) rfl ⟨rfl, hbl.trans (hu.below (Nat.le_refl _))⟩
end Go.Proofs.Ytljdiaokjocfpaa.Crc

/- item, in plain Lean: what was put is read again. -/
import Derived.Test.YtfpocddpnoighaaItO
import Derived.Test.YtfpocddpnoighaaWrQ
namespace Go.Proofs.Ytfpocddpnoighaa.It
open Go.RowKit Go.Proofs.Ytfpocddpnoighaa.L Go.Proofs.Ytfpocddpnoighaa.O Go.Proofs.Ytfpocddpnoighaa.A Go.Proofs.Ytfpocddpnoighaa.R Go.Proofs.Ytfpocddpnoighaa.S Go.Proofs.Ytfpocddpnoighaa.T Go.Proofs.Ytfpocddpnoighaa.E Go.Proofs.Ytfpocddpnoighaa.Wr Go.Proofs.Ytfpocddpnoighaa.F
set_option linter.unusedVariables false
set_option linter.unusedSimpArgs false

theorem take_app (n : Nat) (l1 R : List UInt8) (h : l1.length = n) : takeT n (str (l1 ++ R)) false = str l1 ∧ takeS n (str (l1 ++ R)) false = str R ∧ takeQ n (str (l1 ++ R)) false = false := by
  have hsz : ¬ (str (l1 ++ R)).size < n := by rw [str_size, List.length_append]; omega
  refine ⟨?_, ?_, ?_⟩
  · unfold takeT
    rw [show (false || decide ((str (l1 ++ R)).size < n)) = false by simp [hsz]]
    show (str (l1 ++ R)).extract 0 n = _
    exact (Go.Proofs.Ytfpocddpnoighaa.Wr.str_ext0 (l1 ++ R) n).trans (by rw [List.take_left' h]; rfl)
  · unfold takeS
    rw [show (false || decide ((str (l1 ++ R)).size < n)) = false by simp [hsz]]
    show (str (l1 ++ R)).extract n (str (l1 ++ R)).size = _
    exact (Go.Proofs.Ytfpocddpnoighaa.Wr.str_drop (l1 ++ R) n).trans (by rw [List.drop_left' h]; rfl)
  · unfold takeQ
    simp [hsz]
theorem numT_app (n V : Nat) (R : List UInt8) (hn : n ≤ 8) (hV : V < 256 ^ n) : numT n (str (bigB V n ++ R)) false = V := by
  unfold numT
  rw [(take_app n _ R (len_big V n)).1]
  show numV (bigB V n) = V
  rw [numV_le _ (by rw [len_big]; exact hn), valB_big n V hV]
theorem wrap_u64 (x : Int) (h : -9223372036854775808 ≤ x ∧ x ≤ 9223372036854775807) : wrap64 (u64 x : Nat) = x := by
  unfold u64 wrap64
  omega
theorem nxt_app (x : Int) (R : List UInt8) : nxt (str (bigB (u64 x) 8 ++ R), false) = (str R, false) := by
  obtain ⟨_, h2, h3⟩ := take_app 8 (bigB (u64 x) 8) R (len_big _ _)
  unfold nxt
  rw [h2, h3]
theorem nv_app (x : Int) (h : -9223372036854775808 ≤ x ∧ x ≤ 9223372036854775807) (R : List UInt8) : nv (str (bigB (u64 x) 8 ++ R), false) = x := by
  unfold nv
  rw [numT_app 8 (u64 x) R (by omega) (by have := u64_max x; omega)]
  exact wrap_u64 x h
theorem cnt_app (n : Nat) (R : List UInt8) (h : n ≤ 65535) : cnt (str (bigB n 2 ++ R), false) = n := numT_app 2 n R (by omega) (by omega)
theorem nx2_app (n : Nat) (R : List UInt8) : nx2 (str (bigB n 2 ++ R), false) = (str R, false) := by
  obtain ⟨_, h2, h3⟩ := take_app 2 (bigB n 2) R (len_big _ _)
  unfold nx2
  rw [h2, h3]
theorem flag_big (w : Bool) : [if w then (1 : UInt8) else 0] = bigB (if w then 1 else 0) 1 := by cases w <;> kernel_rfl
theorem bo_app (w : Bool) (R : List UInt8) : bo (str ([if w then 1 else 0] ++ R), false) = (str R, false) ∧ bv (str ([if w then 1 else 0] ++ R), false) = w := by
  obtain ⟨_, h2, h3⟩ := take_app 1 [if w then (1 : UInt8) else 0] R rfl
  have h4 : numT 1 (str ([if w then 1 else 0] ++ R)) false = if w then 1 else 0 := by
    rw [flag_big]
    exact numT_app 1 _ R (by omega) (by split <;> omega)
  unfold bo bv
  rw [h2, h3, h4]
  cases w <;> simp
theorem item_split (x : Im) (R : List UInt8) : itemB x ++ R = bigB (u64 x.c) 8 ++ (bigB (u64 x.v) 8 ++ (bigB (u64 x.l) 8 ++ ([if x.w then 1 else 0] ++ (bigB (u64 x.n) 8 ++ R)))) := by
  simp [itemB, numsB]
theorem item_app (x : Im) (h : goodIm x) (R : List UInt8) : itV (str (itemB x ++ R), false) = x ∧ itS (str (itemB x ++ R), false) = (str R, false) := by
  obtain ⟨h1, h2, h3, h4⟩ := h
  obtain ⟨c, v, l, w, n⟩ := x
  rw [item_split]
  dsimp only at h1 h2 h3 h4 ⊢
  unfold itV itS
  rw [nv_app c h1, nxt_app, nv_app v h2, nxt_app, nv_app l h3, nxt_app, (bo_app w _).1, (bo_app w _).2, nv_app n h4, nxt_app]
  exact ⟨rfl, rfl⟩
theorem items_app : ∀ (l : List Im), (∀ x ∈ l, goodIm x) → ∀ (R : List UInt8), itemsV l.length (str (itemsB l ++ R), false) = l ∧ itSs l.length (str (itemsB l ++ R), false) = (str R, false)
  | [], _, R => ⟨rfl, rfl⟩
  | x :: l, h, R => by
    obtain ⟨h1, h2⟩ := item_app x (h x (by simp)) (itemsB l ++ R)
    obtain ⟨h3, h4⟩ := items_app l (fun y hy => h y (by simp [hy])) R
    have e : itemsB (x :: l) ++ R = itemB x ++ (itemsB l ++ R) := by simp [itemsB]
    rw [e]
    show itV _ :: itemsV l.length (itS _) = _ ∧ itSs l.length (itS _) = _
    rw [h1, h2, h3, h4]
    exact ⟨rfl, rfl⟩
theorem nodes_app : ∀ (l : List Int), (∀ x ∈ l, -9223372036854775808 ≤ x ∧ x ≤ 9223372036854775807) → ∀ (R : List UInt8), nodesV l.length (str (numsB l ++ R), false) = l ∧ nxts l.length (str (numsB l ++ R), false) = (str R, false)
  | [], _, R => ⟨rfl, rfl⟩
  | x :: l, h, R => by
    obtain ⟨h3, h4⟩ := nodes_app l (fun y hy => h y (by simp [hy])) R
    have e : numsB (x :: l) ++ R = bigB (u64 x) 8 ++ (numsB l ++ R) := by simp [numsB]
    rw [e]
    show nv _ :: nodesV l.length (nxt _) = _ ∧ nxts l.length (nxt _) = _
    rw [nv_app x (h x (by simp)), nxt_app, h3, h4]
    exact ⟨rfl, rfl⟩
theorem tid_app (t1 t2 t3 : Int) (h1 : -9223372036854775808 ≤ t1 ∧ t1 ≤ 9223372036854775807) (h2 : -9223372036854775808 ≤ t2 ∧ t2 ≤ 9223372036854775807) (h3 : -9223372036854775808 ≤ t3 ∧ t3 ≤ 9223372036854775807) (R : List UInt8) (o : ByteArray × Bool) (ho : (str (numsB [t1, t2, t3] ++ R), false) = o) : nv o = t1 ∧ nv (nxt o) = t2 ∧ nv (nxt (nxt o)) = t3 ∧ nxt (nxt (nxt o)) = (str R, false) := by
  subst ho
  have e : numsB [t1, t2, t3] ++ R = bigB (u64 t1) 8 ++ (bigB (u64 t2) 8 ++ (bigB (u64 t3) 8 ++ R)) := by simp [numsB]
  rw [e, nv_app t1 h1, nxt_app, nv_app t2 h2, nxt_app, nv_app t3 h3, nxt_app]
  exact ⟨rfl, rfl, rfl, rfl⟩
theorem many_few (n : Nat) (R : List UInt8) (h : n ≤ 16) : manyV (str (bigB n 2 ++ R), false) = n ∧ manyS (str (bigB n 2 ++ R), false) = (str R, false) := by
  unfold manyV manyS
  rw [cnt_app n R (by omega), nx2_app, if_pos h, if_pos h]
  exact ⟨rfl, rfl⟩
theorem many_many (n : Nat) (R : List UInt8) (h : 16 < n) (h2 : n ≤ 65535) : manyV (str (bigB n 2 ++ R), false) = 0 ∧ manyS (str (bigB n 2 ++ R), false) = (str R, true) := by
  unfold manyV manyS
  rw [cnt_app n R h2, nx2_app, if_neg (by omega), if_neg (by omega)]
  exact ⟨rfl, rfl⟩
theorem many_broken (s : ByteArray) : manyV (s, true) = 0 ∧ manyS (s, true) = (s, true) := by
  have h : cnt (s, true) = 0 := by
    unfold cnt numT takeT
    simp [numV]
  unfold manyV manyS nx2 takeS takeQ
  rw [h]
  simp
end Go.Proofs.Ytfpocddpnoighaa.It

/- record: names alike, numbers alike. -/
import Derived.ChangeKeysEq
import Derived.Test.YtfpocddpnoighaaMRu15
namespace Go.Proofs.Ytfpocddpnoighaa.Rc
open Go.RowKit Go.Proofs.Ytfpocddpnoighaa.L Go.Proofs.Ytfpocddpnoighaa.O Go.Proofs.Ytfpocddpnoighaa.A Go.Proofs.Ytfpocddpnoighaa.R Go.Proofs.Ytfpocddpnoighaa.S Go.Proofs.Ytfpocddpnoighaa.T Go.Proofs.Ytfpocddpnoighaa.E Go.Proofs.Ytfpocddpnoighaa.F Go.Proofs.Ytfpocddpnoighaa.It
open Go.Proofs.Ytfpocddpnoighaa.Wr hiding str str_size str_list
set_option linter.unusedVariables false
set_option linter.unusedSimpArgs false

def tB (a b c a' b' c' : Int) : Bool := a == a' && (b == b' && c == c')
theorem tid_eq' (d : Nat) (a b c a' b' c' : Int) (w : World) : (Op.equalIn (d + 4) 51 (.agg #[.int .i64 a, .int .i64 b, .int .i64 c]) (.agg #[.int .i64 a', .int .i64 b', .int .i64 c'])).run Try.prog w = .ok (tB a b c a' b' c') w := by
  have hp : Try.prog.stoodInHeld 51 = false := by kernel_rfl
  have hf : Try.prog.underlying 51 = some (.struct (Try.prog.fieldsOf 51)) := by kernel_rfl
  rw [run_equalIn_agg w _ _ _ _ hf hp]
  clear hf hp
  go_simp
  by_cases h1 : a = a' <;> by_cases h2 : b = b' <;> by_cases h3 : c = c' <;> simp [tB, h1, h2, h3]
theorem tid_eq (a b c a' b' c' : Int) (w : World) : (Op.equalIn 10000 51 (.agg #[.int .i64 a, .int .i64 b, .int .i64 c]) (.agg #[.int .i64 a', .int .i64 b', .int .i64 c'])).run Try.prog w = .ok (tB a b c a' b' c') w := tid_eq' 9996 a b c a' b' c' w
theorem tid_guard : Try.prog.eqGuardType Try.prog.depth 51 = false := by kernel_rfl
def nB (x z : Rc) : Bool := x.n1 == z.n1 && (x.n2 == z.n2 && (x.n3 == z.n3 && (x.n4 == z.n4 && (x.n5 == z.n5 && (x.n6 == z.n6 && (x.n7 == z.n7 && x.n8 == z.n8))))))
/-- are a record's fields and those of its plain one alike? -/
def cmpB (z x : Rc) (zi ni zn nn : Nat) : Bool := zi == ni && (zn == nn && (tB z.t1 z.t2 z.t3 x.t1 x.t2 x.t3 && (z.y == x.y && nB z x)))
abbrev numA (x : Rc) : Array Value := #[.int .i64 x.n1, .int .i64 x.n2, .int .i64 x.n3, .int .i64 x.n4, .int .i64 x.n5, .int .i64 x.n6, .int .i64 x.n7, .int .i64 x.n8]
theorem arr_eq' (d : Nat) (x z : Rc) (w : World) : (Op.equalIn (d + 2) 175 (.agg (numA x)) (.agg (numA z))).run Try.prog w = .ok (nB x z) w := by
  have hu : Try.prog.underlying 175 = some (.array 8 3) := by kernel_rfl
  obtain ⟨i, hi⟩ : ∃ i, Try.prog.info? 3 = some i := by
    have : (Try.prog.info? 3).isSome = true := by kernel_rfl
    exact Option.isSome_iff_exists.1 this
  have hc : Try.prog.cellsOf 3 = 1 := by kernel_rfl
  have hi2 : Try.prog.underlying 3 = some (.int .i64) := by kernel_rfl
  rw [run_equalIn_array w (d + 1) _ _ hu hi]
  obtain ⟨k, t1, t2, t3, l, xs, n1, n2, n3, n4, n5, n6, n7, n8, y⟩ := x
  obtain ⟨k', t1', t2', t3', l', xs', m1, m2, m3, m4, m5, m6, m7, m8, y'⟩ := z
  rw [hc]
  simp only [show List.range 8 = [0, 1, 2, 3, 4, 5, 6, 7] from rfl, Op.eqItems]
  go_simp
  by_cases h1 : n1 = m1
  case neg => simp [nB, h1]
  by_cases h2 : n2 = m2
  case neg => simp [nB, h1, h2]
  by_cases h3 : n3 = m3
  case neg => simp [nB, h1, h2, h3]
  by_cases h4 : n4 = m4
  case neg => simp [nB, h1, h2, h3, h4]
  by_cases h5 : n5 = m5
  case neg => simp [nB, h1, h2, h3, h4, h5]
  by_cases h6 : n6 = m6
  case neg => simp [nB, h1, h2, h3, h4, h5, h6]
  by_cases h7 : n7 = m7
  case neg => simp [nB, h1, h2, h3, h4, h5, h6, h7]
  by_cases h8 : n8 = m8
  case neg => simp [nB, h1, h2, h3, h4, h5, h6, h7, h8]
  simp [nB, h1, h2, h3, h4, h5, h6, h7, h8]
theorem arr_eq (x z : Rc) (w : World) : (Op.equalIn 10000 175 (.agg (numA x)) (.agg (numA z))).run Try.prog w = .ok (nB x z) w := arr_eq' 9998 x z w
theorem arr_guard : Try.prog.eqGuardType Try.prog.depth 175 = false := by kernel_rfl
theorem pl_l (x : Rc) : (pl x).l = if x.k = 4 ∨ x.k = 5 then x.l else [] := by
  obtain ⟨k, t1, t2, t3, l, xs, n1, n2, n3, n4, n5, n6, n7, n8, y⟩ := x
  dsimp only
  by_cases h1 : k = 1
  · subst h1; simp [pl, zr]
  by_cases h2 : k = 2
  · subst h2; simp [pl, zr]
  by_cases h3 : k = 3
  · subst h3; simp [pl, zr]
  by_cases h4 : k = 4
  · subst h4; simp [pl, zr]
  by_cases h5 : k = 5
  · subst h5; simp [pl, zr]
  by_cases h6 : k = 6
  · subst h6; simp [pl, zr]
  by_cases h7 : k = 7
  · subst h7; simp [pl, zr]
  by_cases h8 : k = 8
  · subst h8; simp [pl, zr]
  by_cases h9 : k = 9
  · subst h9; simp [pl, zr]
  by_cases h10 : k = 10
  · subst h10; simp [pl, zr]
  by_cases h11 : k = 11
  · subst h11; simp [pl, zr]
  simp [pl, h1, h2, h3, h4, h5, h6, h7, h8, h9, h10, h11, zr]
theorem pl_xs (x : Rc) : (pl x).xs = if x.k = 4 ∨ x.k = 5 then x.xs else [] := by
  obtain ⟨k, t1, t2, t3, l, xs, n1, n2, n3, n4, n5, n6, n7, n8, y⟩ := x
  dsimp only
  by_cases h1 : k = 1
  · subst h1; simp [pl, zr]
  by_cases h2 : k = 2
  · subst h2; simp [pl, zr]
  by_cases h3 : k = 3
  · subst h3; simp [pl, zr]
  by_cases h4 : k = 4
  · subst h4; simp [pl, zr]
  by_cases h5 : k = 5
  · subst h5; simp [pl, zr]
  by_cases h6 : k = 6
  · subst h6; simp [pl, zr]
  by_cases h7 : k = 7
  · subst h7; simp [pl, zr]
  by_cases h8 : k = 8
  · subst h8; simp [pl, zr]
  by_cases h9 : k = 9
  · subst h9; simp [pl, zr]
  by_cases h10 : k = 10
  · subst h10; simp [pl, zr]
  by_cases h11 : k = 11
  · subst h11; simp [pl, zr]
  simp [pl, h1, h2, h3, h4, h5, h6, h7, h8, h9, h10, h11, zr]
theorem pl_k (x : Rc) : (pl x).k = x.k := by
  obtain ⟨k, t1, t2, t3, l, xs, n1, n2, n3, n4, n5, n6, n7, n8, y⟩ := x
  dsimp only
  by_cases h1 : k = 1
  · subst h1; simp [pl, zr]
  by_cases h2 : k = 2
  · subst h2; simp [pl, zr]
  by_cases h3 : k = 3
  · subst h3; simp [pl, zr]
  by_cases h4 : k = 4
  · subst h4; simp [pl, zr]
  by_cases h5 : k = 5
  · subst h5; simp [pl, zr]
  by_cases h6 : k = 6
  · subst h6; simp [pl, zr]
  by_cases h7 : k = 7
  · subst h7; simp [pl, zr]
  by_cases h8 : k = 8
  · subst h8; simp [pl, zr]
  by_cases h9 : k = 9
  · subst h9; simp [pl, zr]
  by_cases h10 : k = 10
  · subst h10; simp [pl, zr]
  by_cases h11 : k = 11
  · subst h11; simp [pl, zr]
  simp [pl, h1, h2, h3, h4, h5, h6, h7, h8, h9, h10, h11, zr]
def keepN (k : Int) (n : Nat) : Nat := if k = 4 ∨ k = 5 then n else 0
theorem keepN_iff {α : Type} (k : Int) (l : List α) : keepN k l.length = l.length ↔ (if k = 4 ∨ k = 5 then l else []) = l := by
  unfold keepN
  split
  · simp
  · cases l <;> simp
theorem bare_cmp (x : Rc) : cmpB (pl x) x (keepN x.k x.l.length) x.l.length (keepN x.k x.xs.length) x.xs.length = bareB x := by
  have h1 := pl_l x
  have h2 := pl_xs x
  have h3 := pl_k x
  unfold bareB
  generalize pl x = z at h1 h2 h3 ⊢
  obtain ⟨k', a, b, c, l', xs', m1, m2, m3, m4, m5, m6, m7, m8, y'⟩ := z
  obtain ⟨k, t1, t2, t3, l, xs, n1, n2, n3, n4, n5, n6, n7, n8, y⟩ := x
  dsimp only at h1 h2 h3 ⊢
  subst h3
  rw [Bool.eq_iff_iff]
  simp only [cmpB, tB, nB, Bool.and_eq_true, beq_iff_eq, decide_eq_true_iff, Rc.mk.injEq, keepN_iff, ← h1, ← h2]
  constructor
  · rintro ⟨e1, e2, ⟨e3, e4, e5⟩, e6, e7, e8, e9, e10, e11, e12, e13, e14⟩
    exact ⟨trivial, e3, e4, e5, e1, e2, e7, e8, e9, e10, e11, e12, e13, e14, e6⟩
  · rintro ⟨_, e3, e4, e5, e1, e2, e7, e8, e9, e10, e11, e12, e13, e14, e6⟩
    exact ⟨e1, e2, ⟨e3, e4, e5⟩, e6, e7, e8, e9, e10, e11, e12, e13, e14⟩
end Go.Proofs.Ytfpocddpnoighaa.Rc

/- record: bare. -/
namespace Go.Proofs.Ytfpocddpnoighaa.Rc
open Go.RowKit Go.Proofs.Ytfpocddpnoighaa.L Go.Proofs.Ytfpocddpnoighaa.O Go.Proofs.Ytfpocddpnoighaa.A Go.Proofs.Ytfpocddpnoighaa.R Go.Proofs.Ytfpocddpnoighaa.S Go.Proofs.Ytfpocddpnoighaa.T Go.Proofs.Ytfpocddpnoighaa.E Go.Proofs.Ytfpocddpnoighaa.F Go.Proofs.Ytfpocddpnoighaa.It
open Go.Proofs.Ytfpocddpnoighaa.Wr hiding str str_size str_list
set_option linter.unusedVariables false
set_option linter.unusedSimpArgs false

theorem keep_keepN (k : Int) (A : Option Addr) (n c : Nat) : ∃ A' c', keepS k (.slice A n c) = .slice A' (keepN k n) c' := by
  unfold keepS keepN
  split
  · exact ⟨_, _, rfl⟩
  · exact ⟨_, _, rfl⟩
set_option maxHeartbeats 4000000 in
set_option maxRecDepth 100000 in
theorem bare_any (x : Rc) (iA : Option Addr) (ni ic : Nat) (nA : Option Addr) (nn nc : Nat) (w : World) (hl : x.l.length = ni) (hx : x.xs.length = nn) (hn1 : ni ≤ 9223372036854775807) (hn2 : nn ≤ 9223372036854775807) (q : Bool) (hq : bareB x = q) : Calls Try.prog 104 #[.agg (rcA x (.slice iA ni ic) (.slice nA nn nc))] w fun e w' => e = .returned (.bool q) ∧ Below w.heap.size w w' := by
  obtain ⟨jA, jc, hJ⟩ := keep_keepN x.k iA ni ic
  obtain ⟨mA, mc, hM⟩ := keep_keepN x.k nA nn nc
  obtain ⟨zi, hzi⟩ : ∃ n, Hid (keepN x.k ni = n) := ⟨_, Lib.hid rfl⟩
  obtain ⟨zn, hzn⟩ : ∃ n, Hid (keepN x.k nn = n) := ⟨_, Lib.hid rfl⟩
  obtain ⟨z, hz⟩ : ∃ z, Hid (pl x = z) := ⟨_, Lib.hid rfl⟩
  rw [hzi.out] at hJ
  rw [hzn.out] at hM
  have hq2 : Hid (q = cmpB z x zi ni zn nn) := Lib.hid (by rw [← hq, ← bare_cmp, hl, hx, hz.out, hzi.out, hzn.out])
  have hbz : zi ≤ 9223372036854775807 ∧ zn ≤ 9223372036854775807 := by
    rw [← hzi.out, ← hzn.out]; unfold keepN; constructor <;> split <;> omega
  obtain ⟨hb1', hb2'⟩ := hbz
  obtain ⟨g, hg⟩ : ∃ g, Hid (w.heap.size = g) := ⟨_, Lib.hid rfl⟩
  obtain ⟨W0, hW0⟩ : ∃ W0, Hid (w.alloc (.cells (rcA x (.slice iA ni ic) (.slice nA nn nc)) 89) = W0) := ⟨_, Lib.hid rfl⟩
  have hb0 : Hid (Below w.heap.size w W0) := Lib.hid (by rw [← hW0.out]; exact below_alloc _ _)
  have HG : Hid (RcAt g x (.slice iA ni ic) (.slice nA nn nc) W0) := Lib.hid (by rw [← hW0.out, ← hg.out]; exact rcAt_new _ _ _ _)
  have HC := Lib.hid (plain_any x iA ni ic nA nn nc W0)
  rw [hJ, hM, hz.out] at HC
  have htg := tid_guard
  have hag := arr_guard
  have hae := arr_eq z x
  clear hq hl hx hJ hM hz hzi hzn
  obtain ⟨k, t1, t2, t3, l, xs, n1, n2, n3, n4, n5, n6, n7, n8, y⟩ := x
  obtain ⟨zk, s1, s2, s3, zl, zs, m1, m2, m3, m4, m5, m6, m7, m8, v⟩ := z
  dsimp only [rcA] at hW0
  dsimp only [numA] at hae
  obtain ⟨c3, hc3⟩ : ∃ c, Hid (tB s1 s2 s3 t1 t2 t3 = c) := ⟨_, Lib.hid rfl⟩
  obtain ⟨c5, hc5⟩ : ∃ c, Hid (nB ⟨zk, s1, s2, s3, zl, zs, m1, m2, m3, m4, m5, m6, m7, m8, v⟩ ⟨k, t1, t2, t3, l, xs, n1, n2, n3, n4, n5, n6, n7, n8, y⟩ = c) := ⟨_, Lib.hid rfl⟩
  have ht := tid_eq s1 s2 s3 t1 t2 t3
  rw [hc3.out] at ht
  rw [hc5.out] at hae
  have hres : Hid (q = (zi == ni && (zn == nn && (c3 && (v == y && c5))))) := Lib.hid (by rw [hq2.out, ← hc3.out, ← hc5.out]; rfl)
  clear hq2
  go_enter Try.func104, Try.ntmps104
  obtain ⟨f0, f1, f2, f3, f4, f5, f6, f7, f8, f9, f10, f11, f12, f13, f14⟩ := rc_f HG.out
  dsimp only at f0 f1 f2 f3 f4 f5 f6 f7 f8 f9 f10 f11 f12 f13 f14
  go_wp2_with fail
  rw [hW0.out, hg.out]
  refine HC.out.mono ?_
  rintro e w1 ⟨rfl, hb1⟩
  clear f0 f1 f2 f3 f4 f5 f6 f7 f8 f9 f10 f11 f12 f13 f14
  obtain ⟨f0, f1, f2, f3, f4, f5, f6, f7, f8, f9, f10, f11, f12, f13, f14⟩ := rc_f ((HG.out.below hb1).below (below_alloc _ (.cells (rcA ⟨zk, s1, s2, s3, zl, zs, m1, m2, m3, m4, m5, m6, m7, m8, v⟩ (.slice jA zi jc) (.slice mA zn mc)) 89)))
  dsimp only [rcA] at f0 f1 f2 f3 f4 f5 f6 f7 f8 f9 f10 f11 f12 f13 f14
  have HB := Lib.hid (below2 (below2 hb0.out hb1) (below_alloc _ (.cells (rcA ⟨zk, s1, s2, s3, zl, zs, m1, m2, m3, m4, m5, m6, m7, m8, v⟩ (.slice jA zi jc) (.slice mA zn mc)) 89)))
  dsimp only [rcA] at HB
  clear hb1
  by_cases h1 : zi = ni
  case neg =>
    have e1 : decide ((zi : Int) = (ni : Int)) = false := by simp; omega
    have hr2 : Hid (q = false) := Lib.hid (by rw [hres.out]; simp [h1])
    go_wp2
    go_ret
    exact ⟨retbf hr2.out, HB.out⟩
  subst h1
  by_cases h2 : zn = nn
  case neg =>
    have e1 : decide ((zn : Int) = (nn : Int)) = false := by simp; omega
    have hr2 : Hid (q = false) := Lib.hid (by rw [hres.out]; simp [h2])
    go_wp2
    go_ret
    exact ⟨retbf hr2.out, HB.out⟩
  subst h2
  have hres2 : Hid (q = (c3 && (v == y && c5))) := Lib.hid (by rw [hres.out]; simp)
  cases c3
  · go_wp2
    go_ret
    exact ⟨retbf hres2.out, HB.out⟩
  cases v
  · cases y
    · have hr2 : Hid (q = c5) := Lib.hid (by rw [hres2.out]; rfl)
      have y6 := fun o => cell_below (below_alloc _ o) f6
      have y7 := fun o => cell_below (below_alloc _ o) f7
      have y8 := fun o => cell_below (below_alloc _ o) f8
      have y9 := fun o => cell_below (below_alloc _ o) f9
      have y10 := fun o => cell_below (below_alloc _ o) f10
      have y11 := fun o => cell_below (below_alloc _ o) f11
      have y12 := fun o => cell_below (below_alloc _ o) f12
      have y13 := fun o => cell_below (below_alloc _ o) f13
      go_wp2
      go_ret
      exact ⟨retv (congrArg Value.bool hr2.out.symm), below2 HB.out (below_alloc _ _)⟩
    · have hr2 : Hid (q = false) := Lib.hid (by rw [hres2.out]; rfl)
      go_wp2
      go_ret
      exact ⟨retbf hr2.out, HB.out⟩
  · cases y
    · have hr2 : Hid (q = false) := Lib.hid (by rw [hres2.out]; rfl)
      go_wp2
      go_ret
      exact ⟨retbf hr2.out, HB.out⟩
    · have hr2 : Hid (q = c5) := Lib.hid (by rw [hres2.out]; rfl)
      have y6 := fun o => cell_below (below_alloc _ o) f6
      have y7 := fun o => cell_below (below_alloc _ o) f7
      have y8 := fun o => cell_below (below_alloc _ o) f8
      have y9 := fun o => cell_below (below_alloc _ o) f9
      have y10 := fun o => cell_below (below_alloc _ o) f10
      have y11 := fun o => cell_below (below_alloc _ o) f11
      have y12 := fun o => cell_below (below_alloc _ o) f12
      have y13 := fun o => cell_below (below_alloc _ o) f13
      go_wp2
      go_ret
      exact ⟨retv (congrArg Value.bool hr2.out.symm), below2 HB.out (below_alloc _ _)⟩
end Go.Proofs.Ytfpocddpnoighaa.Rc

/- record: Right, kind by kind. -/
namespace Go.Proofs.Ytfpocddpnoighaa.Rc
open Go.RowKit Go.Proofs.Ytfpocddpnoighaa.L Go.Proofs.Ytfpocddpnoighaa.O Go.Proofs.Ytfpocddpnoighaa.A Go.Proofs.Ytfpocddpnoighaa.R Go.Proofs.Ytfpocddpnoighaa.S Go.Proofs.Ytfpocddpnoighaa.T Go.Proofs.Ytfpocddpnoighaa.E Go.Proofs.Ytfpocddpnoighaa.F Go.Proofs.Ytfpocddpnoighaa.It
open Go.Proofs.Ytfpocddpnoighaa.Wr hiding str str_size str_list
set_option linter.unusedVariables false
set_option linter.unusedSimpArgs false

set_option maxHeartbeats 4000000 in
set_option maxRecDepth 100000 in
theorem right_1 (x : Rc) (iA : Option Addr) (ni ic : Nat) (nA : Option Addr) (nn nc : Nat) (w : World) (hk : x.k = 1) (hi' : Ims w iA ni x.l) (hx' : Rd w nA nn (x.xs.map (Value.int .i64))) (q : Bool) (hq : rightB x = q) : Calls Try.prog 61 #[.agg (rcA x (.slice iA ni ic) (.slice nA nn nc))] w fun e w' => e = .returned (.bool q) ∧ Below w.heap.size w w' := by
  have HIL := Lib.hid hi'.len
  have HXL : Hid (x.xs.length = nn) := Lib.hid (by simpa using hx'.len)
  have hni9 := hi'.rd.2.1
  have hnn9 := hx'.2.1
  have HI := Lib.hid hi'
  have HX := Lib.hid hx'
  clear hi' hx'
  obtain ⟨c0, hc0⟩ : ∃ c, Hid (bareB x = c) := ⟨_, Lib.hid rfl⟩
  have hq0 : Hid (q = (c0 && okB x)) := Lib.hid (by rw [← hc0.out, ← hq]; rfl)
  clear hq
  obtain ⟨g, hg⟩ : ∃ g, Hid (w.heap.size = g) := ⟨_, Lib.hid rfl⟩
  obtain ⟨W0, hW0⟩ : ∃ W0, Hid (w.alloc (.cells (rcA x (.slice iA ni ic) (.slice nA nn nc)) 89) = W0) := ⟨_, Lib.hid rfl⟩
  have hb0 : Hid (Below w.heap.size w W0) := Lib.hid (by rw [← hW0.out]; exact below_alloc _ _)
  have HG0 : Hid (RcAt g x (.slice iA ni ic) (.slice nA nn nc) W0) := Lib.hid (by rw [← hW0.out, ← hg.out]; exact rcAt_new _ _ _ _)
  have HC := Lib.hid (bare_any x iA ni ic nA nn nc W0 HIL.out HXL.out hni9 hnn9 c0 hc0.out)
  clear hc0
  obtain ⟨k, t1, t2, t3, l, xs, n1, n2, n3, n4, n5, n6, n7, n8, y⟩ := x
  dsimp only [rcA] at hW0
  obtain ⟨f0, f1, f2, f3, f4, f5, f6, f7, f8, f9, f10, f11, f12, f13, f14⟩ := rc_f HG0.out
  dsimp only at f0 f1 f2 f3 f4 f5 f6 f7 f8 f9 f10 f11 f12 f13 f14 hk
  subst hk
  go_enter Try.func61, Try.ntmps61
  go_wp2_with fail
  rw [hW0.out, hg.out]
  refine HC.out.mono ?_
  rintro e w1 ⟨rfl, hb1⟩
  have HB := Lib.hid (below2 hb0.out hb1)
  have HG := Lib.hid (HG0.out.below hb1)
  clear hb1 HC HG0 f0 f1 f2 f3 f4 f5 f6 f7 f8 f9 f10 f11 f12 f13 f14
  cases c0
  · go_wp2
    go_ret
    exact ⟨retbf hq0.out, HB.out⟩
  obtain ⟨f0, f1, f2, f3, f4, f5, f6, f7, f8, f9, f10, f11, f12, f13, f14⟩ := rc_f HG.out
  dsimp only at f0 f1 f2 f3 f4 f5 f6 f7 f8 f9 f10 f11 f12 f13 f14
  have hok : Hid (q = okB ⟨1, t1, t2, t3, l, xs, n1, n2, n3, n4, n5, n6, n7, n8, y⟩) := hq0
  obtain ⟨c1, hc1⟩ : ∃ c, Hid (btw 1 16 n2 = c) := ⟨_, Lib.hid rfl⟩
  obtain ⟨c2, hc2⟩ : ∃ c, Hid (btw 1 n2 n1 = c) := ⟨_, Lib.hid rfl⟩
  obtain ⟨c3, hc3⟩ : ∃ c, Hid (btw 1 16 n3 = c) := ⟨_, Lib.hid rfl⟩
  have hres : Hid (q = (c1 && (c2 && c3))) := Lib.hid (by rw [← hc1.out, ← hc2.out, ← hc3.out, hok.out]; rfl)
  go_wp2_with fail
  refine (inr_any n2 1 16 _ c1 hc1.out).mono ?_
  rintro e w2 ⟨rfl, rfl⟩
  cases c1
  · go_wp2
    go_ret
    exact ⟨retbf hres.out, HB.out⟩
  · go_wp2_with fail
    refine (inr_any n1 1 n2 _ c2 hc2.out).mono ?_
    rintro e w2 ⟨rfl, rfl⟩
    cases c2
    · go_wp2
      go_ret
      exact ⟨retbf hres.out, HB.out⟩
    · go_wp2_with fail
      refine (inr_any n3 1 16 _ c3 hc3.out).mono ?_
      rintro e w2 ⟨rfl, rfl⟩
      go_wp2
      go_ret
      exact ⟨retv (congrArg Value.bool hres.out.symm), HB.out⟩
set_option maxHeartbeats 4000000 in
set_option maxRecDepth 100000 in
theorem right_2 (x : Rc) (iA : Option Addr) (ni ic : Nat) (nA : Option Addr) (nn nc : Nat) (w : World) (hk : x.k = 2) (hi' : Ims w iA ni x.l) (hx' : Rd w nA nn (x.xs.map (Value.int .i64))) (q : Bool) (hq : rightB x = q) : Calls Try.prog 61 #[.agg (rcA x (.slice iA ni ic) (.slice nA nn nc))] w fun e w' => e = .returned (.bool q) ∧ Below w.heap.size w w' := by
  have HIL := Lib.hid hi'.len
  have HXL : Hid (x.xs.length = nn) := Lib.hid (by simpa using hx'.len)
  have hni9 := hi'.rd.2.1
  have hnn9 := hx'.2.1
  have HI := Lib.hid hi'
  have HX := Lib.hid hx'
  clear hi' hx'
  obtain ⟨c0, hc0⟩ : ∃ c, Hid (bareB x = c) := ⟨_, Lib.hid rfl⟩
  have hq0 : Hid (q = (c0 && okB x)) := Lib.hid (by rw [← hc0.out, ← hq]; rfl)
  clear hq
  obtain ⟨g, hg⟩ : ∃ g, Hid (w.heap.size = g) := ⟨_, Lib.hid rfl⟩
  obtain ⟨W0, hW0⟩ : ∃ W0, Hid (w.alloc (.cells (rcA x (.slice iA ni ic) (.slice nA nn nc)) 89) = W0) := ⟨_, Lib.hid rfl⟩
  have hb0 : Hid (Below w.heap.size w W0) := Lib.hid (by rw [← hW0.out]; exact below_alloc _ _)
  have HG0 : Hid (RcAt g x (.slice iA ni ic) (.slice nA nn nc) W0) := Lib.hid (by rw [← hW0.out, ← hg.out]; exact rcAt_new _ _ _ _)
  have HC := Lib.hid (bare_any x iA ni ic nA nn nc W0 HIL.out HXL.out hni9 hnn9 c0 hc0.out)
  clear hc0
  obtain ⟨k, t1, t2, t3, l, xs, n1, n2, n3, n4, n5, n6, n7, n8, y⟩ := x
  dsimp only [rcA] at hW0
  obtain ⟨f0, f1, f2, f3, f4, f5, f6, f7, f8, f9, f10, f11, f12, f13, f14⟩ := rc_f HG0.out
  dsimp only at f0 f1 f2 f3 f4 f5 f6 f7 f8 f9 f10 f11 f12 f13 f14 hk
  subst hk
  go_enter Try.func61, Try.ntmps61
  go_wp2_with fail
  rw [hW0.out, hg.out]
  refine HC.out.mono ?_
  rintro e w1 ⟨rfl, hb1⟩
  have HB := Lib.hid (below2 hb0.out hb1)
  have HG := Lib.hid (HG0.out.below hb1)
  clear hb1 HC HG0 f0 f1 f2 f3 f4 f5 f6 f7 f8 f9 f10 f11 f12 f13 f14
  cases c0
  · go_wp2
    go_ret
    exact ⟨retbf hq0.out, HB.out⟩
  obtain ⟨f0, f1, f2, f3, f4, f5, f6, f7, f8, f9, f10, f11, f12, f13, f14⟩ := rc_f HG.out
  dsimp only at f0 f1 f2 f3 f4 f5 f6 f7 f8 f9 f10 f11 f12 f13 f14
  have hok : Hid (q = okB ⟨2, t1, t2, t3, l, xs, n1, n2, n3, n4, n5, n6, n7, n8, y⟩) := hq0
  obtain ⟨c1, hc1⟩ : ∃ c, Hid (btw 1 1099511627776 n3 = c) := ⟨_, Lib.hid rfl⟩
  have hres : Hid (q = c1) := Lib.hid (by rw [← hc1.out, hok.out]; rfl)
  go_wp2_with fail
  refine (inr_any n3 1 1099511627776 _ c1 hc1.out).mono ?_
  rintro e w2 ⟨rfl, rfl⟩
  go_wp2
  go_ret
  exact ⟨retv (congrArg Value.bool hres.out.symm), HB.out⟩
set_option maxHeartbeats 4000000 in
set_option maxRecDepth 100000 in
theorem right_3 (x : Rc) (iA : Option Addr) (ni ic : Nat) (nA : Option Addr) (nn nc : Nat) (w : World) (hk : x.k = 3) (hi' : Ims w iA ni x.l) (hx' : Rd w nA nn (x.xs.map (Value.int .i64))) (q : Bool) (hq : rightB x = q) : Calls Try.prog 61 #[.agg (rcA x (.slice iA ni ic) (.slice nA nn nc))] w fun e w' => e = .returned (.bool q) ∧ Below w.heap.size w w' := by
  have HIL := Lib.hid hi'.len
  have HXL : Hid (x.xs.length = nn) := Lib.hid (by simpa using hx'.len)
  have hni9 := hi'.rd.2.1
  have hnn9 := hx'.2.1
  have HI := Lib.hid hi'
  have HX := Lib.hid hx'
  clear hi' hx'
  obtain ⟨c0, hc0⟩ : ∃ c, Hid (bareB x = c) := ⟨_, Lib.hid rfl⟩
  have hq0 : Hid (q = (c0 && okB x)) := Lib.hid (by rw [← hc0.out, ← hq]; rfl)
  clear hq
  obtain ⟨g, hg⟩ : ∃ g, Hid (w.heap.size = g) := ⟨_, Lib.hid rfl⟩
  obtain ⟨W0, hW0⟩ : ∃ W0, Hid (w.alloc (.cells (rcA x (.slice iA ni ic) (.slice nA nn nc)) 89) = W0) := ⟨_, Lib.hid rfl⟩
  have hb0 : Hid (Below w.heap.size w W0) := Lib.hid (by rw [← hW0.out]; exact below_alloc _ _)
  have HG0 : Hid (RcAt g x (.slice iA ni ic) (.slice nA nn nc) W0) := Lib.hid (by rw [← hW0.out, ← hg.out]; exact rcAt_new _ _ _ _)
  have HC := Lib.hid (bare_any x iA ni ic nA nn nc W0 HIL.out HXL.out hni9 hnn9 c0 hc0.out)
  clear hc0
  obtain ⟨k, t1, t2, t3, l, xs, n1, n2, n3, n4, n5, n6, n7, n8, y⟩ := x
  dsimp only [rcA] at hW0
  obtain ⟨f0, f1, f2, f3, f4, f5, f6, f7, f8, f9, f10, f11, f12, f13, f14⟩ := rc_f HG0.out
  dsimp only at f0 f1 f2 f3 f4 f5 f6 f7 f8 f9 f10 f11 f12 f13 f14 hk
  subst hk
  go_enter Try.func61, Try.ntmps61
  go_wp2_with fail
  rw [hW0.out, hg.out]
  refine HC.out.mono ?_
  rintro e w1 ⟨rfl, hb1⟩
  have HB := Lib.hid (below2 hb0.out hb1)
  have HG := Lib.hid (HG0.out.below hb1)
  clear hb1 HC HG0 f0 f1 f2 f3 f4 f5 f6 f7 f8 f9 f10 f11 f12 f13 f14
  cases c0
  · go_wp2
    go_ret
    exact ⟨retbf hq0.out, HB.out⟩
  obtain ⟨f0, f1, f2, f3, f4, f5, f6, f7, f8, f9, f10, f11, f12, f13, f14⟩ := rc_f HG.out
  dsimp only at f0 f1 f2 f3 f4 f5 f6 f7 f8 f9 f10 f11 f12 f13 f14
  have hok : Hid (q = okB ⟨3, t1, t2, t3, l, xs, n1, n2, n3, n4, n5, n6, n7, n8, y⟩) := hq0
  obtain ⟨c1, hc1⟩ : ∃ c, Hid (cellB ⟨3, t1, t2, t3, l, xs, n1, n2, n3, n4, n5, n6, n7, n8, y⟩ = c) := ⟨_, Lib.hid rfl⟩
  have hres : Hid (q = c1) := Lib.hid (by rw [← hc1.out, hok.out]; rfl)
  go_wp2_with fail
  refine (rightCell_any ⟨3, t1, t2, t3, l, xs, n1, n2, n3, n4, n5, n6, n7, n8, y⟩ iA ni ic nA nn nc _ c1 hc1.out).mono ?_
  rintro e w3 ⟨rfl, hb2⟩
  replace HB := Lib.hid (below2 HB.out hb2)
  replace HG := Lib.hid (HG.out.below hb2)
  clear hb2 f0 f1 f2 f3 f4 f5 f6 f7 f8 f9 f10 f11 f12 f13 f14
  obtain ⟨f0, f1, f2, f3, f4, f5, f6, f7, f8, f9, f10, f11, f12, f13, f14⟩ := rc_f HG.out
  dsimp only at f0 f1 f2 f3 f4 f5 f6 f7 f8 f9 f10 f11 f12 f13 f14
  go_wp2
  go_ret
  exact ⟨retv (congrArg Value.bool hres.out.symm), HB.out⟩
end Go.Proofs.Ytfpocddpnoighaa.Rc

/- record: Right, kind by kind. -/
namespace Go.Proofs.Ytfpocddpnoighaa.Rc
open Go.RowKit Go.Proofs.Ytfpocddpnoighaa.L Go.Proofs.Ytfpocddpnoighaa.O Go.Proofs.Ytfpocddpnoighaa.A Go.Proofs.Ytfpocddpnoighaa.R Go.Proofs.Ytfpocddpnoighaa.S Go.Proofs.Ytfpocddpnoighaa.T Go.Proofs.Ytfpocddpnoighaa.E Go.Proofs.Ytfpocddpnoighaa.F Go.Proofs.Ytfpocddpnoighaa.It
open Go.Proofs.Ytfpocddpnoighaa.Wr hiding str str_size str_list
set_option linter.unusedVariables false
set_option linter.unusedSimpArgs false

set_option maxHeartbeats 4000000 in
set_option maxRecDepth 100000 in
theorem right_4 (x : Rc) (iA : Option Addr) (ni ic : Nat) (nA : Option Addr) (nn nc : Nat) (w : World) (hk : x.k = 4) (hi' : Ims w iA ni x.l) (hx' : Rd w nA nn (x.xs.map (Value.int .i64))) (q : Bool) (hq : rightB x = q) : Calls Try.prog 61 #[.agg (rcA x (.slice iA ni ic) (.slice nA nn nc))] w fun e w' => e = .returned (.bool q) ∧ Below w.heap.size w w' := by
  have HIL := Lib.hid hi'.len
  have HXL : Hid (x.xs.length = nn) := Lib.hid (by simpa using hx'.len)
  have hni9 := hi'.rd.2.1
  have hnn9 := hx'.2.1
  have HI := Lib.hid hi'
  have HX := Lib.hid hx'
  clear hi' hx'
  obtain ⟨c0, hc0⟩ : ∃ c, Hid (bareB x = c) := ⟨_, Lib.hid rfl⟩
  have hq0 : Hid (q = (c0 && okB x)) := Lib.hid (by rw [← hc0.out, ← hq]; rfl)
  clear hq
  obtain ⟨g, hg⟩ : ∃ g, Hid (w.heap.size = g) := ⟨_, Lib.hid rfl⟩
  obtain ⟨W0, hW0⟩ : ∃ W0, Hid (w.alloc (.cells (rcA x (.slice iA ni ic) (.slice nA nn nc)) 89) = W0) := ⟨_, Lib.hid rfl⟩
  have hb0 : Hid (Below w.heap.size w W0) := Lib.hid (by rw [← hW0.out]; exact below_alloc _ _)
  have HG0 : Hid (RcAt g x (.slice iA ni ic) (.slice nA nn nc) W0) := Lib.hid (by rw [← hW0.out, ← hg.out]; exact rcAt_new _ _ _ _)
  have HC := Lib.hid (bare_any x iA ni ic nA nn nc W0 HIL.out HXL.out hni9 hnn9 c0 hc0.out)
  clear hc0
  obtain ⟨k, t1, t2, t3, l, xs, n1, n2, n3, n4, n5, n6, n7, n8, y⟩ := x
  dsimp only [rcA] at hW0
  obtain ⟨f0, f1, f2, f3, f4, f5, f6, f7, f8, f9, f10, f11, f12, f13, f14⟩ := rc_f HG0.out
  dsimp only at f0 f1 f2 f3 f4 f5 f6 f7 f8 f9 f10 f11 f12 f13 f14 hk
  subst hk
  go_enter Try.func61, Try.ntmps61
  go_wp2_with fail
  rw [hW0.out, hg.out]
  refine HC.out.mono ?_
  rintro e w1 ⟨rfl, hb1⟩
  have HB := Lib.hid (below2 hb0.out hb1)
  have HG := Lib.hid (HG0.out.below hb1)
  clear hb1 HC HG0 f0 f1 f2 f3 f4 f5 f6 f7 f8 f9 f10 f11 f12 f13 f14
  cases c0
  · go_wp2
    go_ret
    exact ⟨retbf hq0.out, HB.out⟩
  obtain ⟨f0, f1, f2, f3, f4, f5, f6, f7, f8, f9, f10, f11, f12, f13, f14⟩ := rc_f HG.out
  dsimp only at f0 f1 f2 f3 f4 f5 f6 f7 f8 f9 f10 f11 f12 f13 f14
  have hok : Hid (q = okB ⟨4, t1, t2, t3, l, xs, n1, n2, n3, n4, n5, n6, n7, n8, y⟩) := hq0
  obtain ⟨c1, hc1⟩ : ∃ c, Hid (tidR ⟨t1, t2, t3⟩ = c) := ⟨_, Lib.hid rfl⟩
  obtain ⟨c2, hc2⟩ : ∃ c, Hid (itemsR l = c) := ⟨_, Lib.hid rfl⟩
  obtain ⟨c3, hc3⟩ : ∃ c, Hid (nodesR xs = c) := ⟨_, Lib.hid rfl⟩
  have hres : Hid (q = (c1 && (c2 && c3))) := Lib.hid (by rw [← hc1.out, ← hc2.out, ← hc3.out, hok.out]; rfl)
  go_wp2_with fail
  refine (righttid_any ⟨t1, t2, t3⟩ _ c1 hc1.out).mono ?_
  rintro e w3 ⟨rfl, hb2⟩
  replace HB := Lib.hid (below2 HB.out hb2)
  replace HG := Lib.hid (HG.out.below hb2)
  clear hb2 f0 f1 f2 f3 f4 f5 f6 f7 f8 f9 f10 f11 f12 f13 f14
  obtain ⟨f0, f1, f2, f3, f4, f5, f6, f7, f8, f9, f10, f11, f12, f13, f14⟩ := rc_f HG.out
  dsimp only at f0 f1 f2 f3 f4 f5 f6 f7 f8 f9 f10 f11 f12 f13 f14
  cases c1
  · go_wp2
    go_ret
    exact ⟨retbf hres.out, HB.out⟩
  · go_wp2_with fail
    refine (rightitems_any iA ni ic l _ (HI.out.below HB.out) c2 hc2.out).mono ?_
    rintro e w4 ⟨rfl, hb2⟩
    replace HB := Lib.hid (below2 HB.out hb2)
    replace HG := Lib.hid (HG.out.below hb2)
    clear hb2 f0 f1 f2 f3 f4 f5 f6 f7 f8 f9 f10 f11 f12 f13 f14
    obtain ⟨f0, f1, f2, f3, f4, f5, f6, f7, f8, f9, f10, f11, f12, f13, f14⟩ := rc_f HG.out
    dsimp only at f0 f1 f2 f3 f4 f5 f6 f7 f8 f9 f10 f11 f12 f13 f14
    cases c2
    · go_wp2
      go_ret
      exact ⟨retbf hres.out, HB.out⟩
    · go_wp2_with fail
      refine (rightnodes_any nA nn nc xs _ (HX.out.below HB.out) c3 hc3.out).mono ?_
      rintro e w5 ⟨rfl, hb2⟩
      replace HB := Lib.hid (below2 HB.out hb2)
      replace HG := Lib.hid (HG.out.below hb2)
      clear hb2 f0 f1 f2 f3 f4 f5 f6 f7 f8 f9 f10 f11 f12 f13 f14
      obtain ⟨f0, f1, f2, f3, f4, f5, f6, f7, f8, f9, f10, f11, f12, f13, f14⟩ := rc_f HG.out
      dsimp only at f0 f1 f2 f3 f4 f5 f6 f7 f8 f9 f10 f11 f12 f13 f14
      go_wp2
      go_ret
      exact ⟨retv (congrArg Value.bool hres.out.symm), HB.out⟩
set_option maxHeartbeats 4000000 in
set_option maxRecDepth 100000 in
theorem right_5 (x : Rc) (iA : Option Addr) (ni ic : Nat) (nA : Option Addr) (nn nc : Nat) (w : World) (hk : x.k = 5) (hi' : Ims w iA ni x.l) (hx' : Rd w nA nn (x.xs.map (Value.int .i64))) (q : Bool) (hq : rightB x = q) : Calls Try.prog 61 #[.agg (rcA x (.slice iA ni ic) (.slice nA nn nc))] w fun e w' => e = .returned (.bool q) ∧ Below w.heap.size w w' := by
  have HIL := Lib.hid hi'.len
  have HXL : Hid (x.xs.length = nn) := Lib.hid (by simpa using hx'.len)
  have hni9 := hi'.rd.2.1
  have hnn9 := hx'.2.1
  have HI := Lib.hid hi'
  have HX := Lib.hid hx'
  clear hi' hx'
  obtain ⟨c0, hc0⟩ : ∃ c, Hid (bareB x = c) := ⟨_, Lib.hid rfl⟩
  have hq0 : Hid (q = (c0 && okB x)) := Lib.hid (by rw [← hc0.out, ← hq]; rfl)
  clear hq
  obtain ⟨g, hg⟩ : ∃ g, Hid (w.heap.size = g) := ⟨_, Lib.hid rfl⟩
  obtain ⟨W0, hW0⟩ : ∃ W0, Hid (w.alloc (.cells (rcA x (.slice iA ni ic) (.slice nA nn nc)) 89) = W0) := ⟨_, Lib.hid rfl⟩
  have hb0 : Hid (Below w.heap.size w W0) := Lib.hid (by rw [← hW0.out]; exact below_alloc _ _)
  have HG0 : Hid (RcAt g x (.slice iA ni ic) (.slice nA nn nc) W0) := Lib.hid (by rw [← hW0.out, ← hg.out]; exact rcAt_new _ _ _ _)
  have HC := Lib.hid (bare_any x iA ni ic nA nn nc W0 HIL.out HXL.out hni9 hnn9 c0 hc0.out)
  clear hc0
  obtain ⟨k, t1, t2, t3, l, xs, n1, n2, n3, n4, n5, n6, n7, n8, y⟩ := x
  dsimp only [rcA] at hW0
  obtain ⟨f0, f1, f2, f3, f4, f5, f6, f7, f8, f9, f10, f11, f12, f13, f14⟩ := rc_f HG0.out
  dsimp only at f0 f1 f2 f3 f4 f5 f6 f7 f8 f9 f10 f11 f12 f13 f14 hk
  subst hk
  go_enter Try.func61, Try.ntmps61
  go_wp2_with fail
  rw [hW0.out, hg.out]
  refine HC.out.mono ?_
  rintro e w1 ⟨rfl, hb1⟩
  have HB := Lib.hid (below2 hb0.out hb1)
  have HG := Lib.hid (HG0.out.below hb1)
  clear hb1 HC HG0 f0 f1 f2 f3 f4 f5 f6 f7 f8 f9 f10 f11 f12 f13 f14
  cases c0
  · go_wp2
    go_ret
    exact ⟨retbf hq0.out, HB.out⟩
  obtain ⟨f0, f1, f2, f3, f4, f5, f6, f7, f8, f9, f10, f11, f12, f13, f14⟩ := rc_f HG.out
  dsimp only at f0 f1 f2 f3 f4 f5 f6 f7 f8 f9 f10 f11 f12 f13 f14
  have hok : Hid (q = okB ⟨5, t1, t2, t3, l, xs, n1, n2, n3, n4, n5, n6, n7, n8, y⟩) := hq0
  obtain ⟨c1, hc1⟩ : ∃ c, Hid (tidR ⟨t1, t2, t3⟩ = c) := ⟨_, Lib.hid rfl⟩
  obtain ⟨c2, hc2⟩ : ∃ c, Hid (itemsR l = c) := ⟨_, Lib.hid rfl⟩
  obtain ⟨c3, hc3⟩ : ∃ c, Hid (nodesR xs = c) := ⟨_, Lib.hid rfl⟩
  have hres : Hid (q = (c1 && ((l.length == 0 || c2) && c3))) := Lib.hid (by rw [← hc1.out, ← hc2.out, ← hc3.out, hok.out]; rfl)
  go_wp2_with fail
  refine (righttid_any ⟨t1, t2, t3⟩ _ c1 hc1.out).mono ?_
  rintro e W9 ⟨rfl, hb2⟩
  replace HB := Lib.hid (below2 HB.out hb2)
  replace HG := Lib.hid (HG.out.below hb2)
  clear hb2 f0 f1 f2 f3 f4 f5 f6 f7 f8 f9 f10 f11 f12 f13 f14
  obtain ⟨f0, f1, f2, f3, f4, f5, f6, f7, f8, f9, f10, f11, f12, f13, f14⟩ := rc_f HG.out
  dsimp only at f0 f1 f2 f3 f4 f5 f6 f7 f8 f9 f10 f11 f12 f13 f14
  cases c1
  · go_wp2
    go_ret
    exact ⟨retbf hres.out, HB.out⟩
  · by_cases h0 : ni = 0
    · subst h0
      have hr2 : Hid (q = c3) := Lib.hid (by rw [hres.out, HIL.out]; simp)
      go_wp2_with fail
      refine (rightnodes_any nA nn nc xs _ (HX.out.below HB.out) c3 hc3.out).mono ?_
      rintro e W9 ⟨rfl, hb2⟩
      replace HB := Lib.hid (below2 HB.out hb2)
      replace HG := Lib.hid (HG.out.below hb2)
      clear hb2 f0 f1 f2 f3 f4 f5 f6 f7 f8 f9 f10 f11 f12 f13 f14
      obtain ⟨f0, f1, f2, f3, f4, f5, f6, f7, f8, f9, f10, f11, f12, f13, f14⟩ := rc_f HG.out
      dsimp only at f0 f1 f2 f3 f4 f5 f6 f7 f8 f9 f10 f11 f12 f13 f14
      go_wp2
      go_ret
      exact ⟨retv (congrArg Value.bool hr2.out.symm), HB.out⟩
    · have hni : 0 < ni := by omega
      have hni2 : decide ((ni : Int) = 0) = false := by simp; omega
      have hr3 : Hid (q = (c2 && c3)) := Lib.hid (by rw [hres.out, HIL.out, show (ni == 0) = false from by simpa using h0, Bool.false_or, Bool.true_and])
      clear hres
      go_wp2_with fail
      refine (rightitems_any iA ni ic l _ (HI.out.below HB.out) c2 hc2.out).mono ?_
      rintro e W9 ⟨rfl, hb2⟩
      replace HB := Lib.hid (below2 HB.out hb2)
      replace HG := Lib.hid (HG.out.below hb2)
      clear hb2 f0 f1 f2 f3 f4 f5 f6 f7 f8 f9 f10 f11 f12 f13 f14
      obtain ⟨f0, f1, f2, f3, f4, f5, f6, f7, f8, f9, f10, f11, f12, f13, f14⟩ := rc_f HG.out
      dsimp only at f0 f1 f2 f3 f4 f5 f6 f7 f8 f9 f10 f11 f12 f13 f14
      cases c2
      · go_wp2
        go_ret
        exact ⟨retbf hr3.out, HB.out⟩
      · have hr2 : Hid (q = c3) := Lib.hid (by rw [hr3.out]; rfl)
        go_wp2_with fail
        refine (rightnodes_any nA nn nc xs _ (HX.out.below HB.out) c3 hc3.out).mono ?_
        rintro e W9 ⟨rfl, hb2⟩
        replace HB := Lib.hid (below2 HB.out hb2)
        replace HG := Lib.hid (HG.out.below hb2)
        clear hb2 f0 f1 f2 f3 f4 f5 f6 f7 f8 f9 f10 f11 f12 f13 f14
        obtain ⟨f0, f1, f2, f3, f4, f5, f6, f7, f8, f9, f10, f11, f12, f13, f14⟩ := rc_f HG.out
        dsimp only at f0 f1 f2 f3 f4 f5 f6 f7 f8 f9 f10 f11 f12 f13 f14
        go_wp2
        go_ret
        exact ⟨retv (congrArg Value.bool hr2.out.symm), HB.out⟩
end Go.Proofs.Ytfpocddpnoighaa.Rc

/- record: Right, kind by kind. -/
namespace Go.Proofs.Ytfpocddpnoighaa.Rc
open Go.RowKit Go.Proofs.Ytfpocddpnoighaa.L Go.Proofs.Ytfpocddpnoighaa.O Go.Proofs.Ytfpocddpnoighaa.A Go.Proofs.Ytfpocddpnoighaa.R Go.Proofs.Ytfpocddpnoighaa.S Go.Proofs.Ytfpocddpnoighaa.T Go.Proofs.Ytfpocddpnoighaa.E Go.Proofs.Ytfpocddpnoighaa.F Go.Proofs.Ytfpocddpnoighaa.It
open Go.Proofs.Ytfpocddpnoighaa.Wr hiding str str_size str_list
set_option linter.unusedVariables false
set_option linter.unusedSimpArgs false

set_option maxHeartbeats 4000000 in
set_option maxRecDepth 100000 in
theorem right_6 (x : Rc) (iA : Option Addr) (ni ic : Nat) (nA : Option Addr) (nn nc : Nat) (w : World) (hk : x.k = 6) (hi' : Ims w iA ni x.l) (hx' : Rd w nA nn (x.xs.map (Value.int .i64))) (q : Bool) (hq : rightB x = q) : Calls Try.prog 61 #[.agg (rcA x (.slice iA ni ic) (.slice nA nn nc))] w fun e w' => e = .returned (.bool q) ∧ Below w.heap.size w w' := by
  have HIL := Lib.hid hi'.len
  have HXL : Hid (x.xs.length = nn) := Lib.hid (by simpa using hx'.len)
  have hni9 := hi'.rd.2.1
  have hnn9 := hx'.2.1
  have HI := Lib.hid hi'
  have HX := Lib.hid hx'
  clear hi' hx'
  obtain ⟨c0, hc0⟩ : ∃ c, Hid (bareB x = c) := ⟨_, Lib.hid rfl⟩
  have hq0 : Hid (q = (c0 && okB x)) := Lib.hid (by rw [← hc0.out, ← hq]; rfl)
  clear hq
  obtain ⟨g, hg⟩ : ∃ g, Hid (w.heap.size = g) := ⟨_, Lib.hid rfl⟩
  obtain ⟨W0, hW0⟩ : ∃ W0, Hid (w.alloc (.cells (rcA x (.slice iA ni ic) (.slice nA nn nc)) 89) = W0) := ⟨_, Lib.hid rfl⟩
  have hb0 : Hid (Below w.heap.size w W0) := Lib.hid (by rw [← hW0.out]; exact below_alloc _ _)
  have HG0 : Hid (RcAt g x (.slice iA ni ic) (.slice nA nn nc) W0) := Lib.hid (by rw [← hW0.out, ← hg.out]; exact rcAt_new _ _ _ _)
  have HC := Lib.hid (bare_any x iA ni ic nA nn nc W0 HIL.out HXL.out hni9 hnn9 c0 hc0.out)
  clear hc0
  obtain ⟨k, t1, t2, t3, l, xs, n1, n2, n3, n4, n5, n6, n7, n8, y⟩ := x
  dsimp only [rcA] at hW0
  obtain ⟨f0, f1, f2, f3, f4, f5, f6, f7, f8, f9, f10, f11, f12, f13, f14⟩ := rc_f HG0.out
  dsimp only at f0 f1 f2 f3 f4 f5 f6 f7 f8 f9 f10 f11 f12 f13 f14 hk
  subst hk
  go_enter Try.func61, Try.ntmps61
  go_wp2_with fail
  rw [hW0.out, hg.out]
  refine HC.out.mono ?_
  rintro e w1 ⟨rfl, hb1⟩
  have HB := Lib.hid (below2 hb0.out hb1)
  have HG := Lib.hid (HG0.out.below hb1)
  clear hb1 HC HG0 f0 f1 f2 f3 f4 f5 f6 f7 f8 f9 f10 f11 f12 f13 f14
  cases c0
  · go_wp2
    go_ret
    exact ⟨retbf hq0.out, HB.out⟩
  obtain ⟨f0, f1, f2, f3, f4, f5, f6, f7, f8, f9, f10, f11, f12, f13, f14⟩ := rc_f HG.out
  dsimp only at f0 f1 f2 f3 f4 f5 f6 f7 f8 f9 f10 f11 f12 f13 f14
  have hok : Hid (q = okB ⟨6, t1, t2, t3, l, xs, n1, n2, n3, n4, n5, n6, n7, n8, y⟩) := hq0
  obtain ⟨c1, hc1⟩ : ∃ c, Hid (tidR ⟨t1, t2, t3⟩ = c) := ⟨_, Lib.hid rfl⟩
  have hres : Hid (q = c1) := Lib.hid (by rw [← hc1.out, hok.out]; rfl)
  go_wp2_with fail
  refine (righttid_any ⟨t1, t2, t3⟩ _ c1 hc1.out).mono ?_
  rintro e w3 ⟨rfl, hb2⟩
  replace HB := Lib.hid (below2 HB.out hb2)
  replace HG := Lib.hid (HG.out.below hb2)
  clear hb2 f0 f1 f2 f3 f4 f5 f6 f7 f8 f9 f10 f11 f12 f13 f14
  obtain ⟨f0, f1, f2, f3, f4, f5, f6, f7, f8, f9, f10, f11, f12, f13, f14⟩ := rc_f HG.out
  dsimp only at f0 f1 f2 f3 f4 f5 f6 f7 f8 f9 f10 f11 f12 f13 f14
  go_wp2
  go_ret
  exact ⟨retv (congrArg Value.bool hres.out.symm), HB.out⟩
set_option maxHeartbeats 4000000 in
set_option maxRecDepth 100000 in
theorem right_7 (x : Rc) (iA : Option Addr) (ni ic : Nat) (nA : Option Addr) (nn nc : Nat) (w : World) (hk : x.k = 7) (hi' : Ims w iA ni x.l) (hx' : Rd w nA nn (x.xs.map (Value.int .i64))) (q : Bool) (hq : rightB x = q) : Calls Try.prog 61 #[.agg (rcA x (.slice iA ni ic) (.slice nA nn nc))] w fun e w' => e = .returned (.bool q) ∧ Below w.heap.size w w' := by
  have HIL := Lib.hid hi'.len
  have HXL : Hid (x.xs.length = nn) := Lib.hid (by simpa using hx'.len)
  have hni9 := hi'.rd.2.1
  have hnn9 := hx'.2.1
  have HI := Lib.hid hi'
  have HX := Lib.hid hx'
  clear hi' hx'
  obtain ⟨c0, hc0⟩ : ∃ c, Hid (bareB x = c) := ⟨_, Lib.hid rfl⟩
  have hq0 : Hid (q = (c0 && okB x)) := Lib.hid (by rw [← hc0.out, ← hq]; rfl)
  clear hq
  obtain ⟨g, hg⟩ : ∃ g, Hid (w.heap.size = g) := ⟨_, Lib.hid rfl⟩
  obtain ⟨W0, hW0⟩ : ∃ W0, Hid (w.alloc (.cells (rcA x (.slice iA ni ic) (.slice nA nn nc)) 89) = W0) := ⟨_, Lib.hid rfl⟩
  have hb0 : Hid (Below w.heap.size w W0) := Lib.hid (by rw [← hW0.out]; exact below_alloc _ _)
  have HG0 : Hid (RcAt g x (.slice iA ni ic) (.slice nA nn nc) W0) := Lib.hid (by rw [← hW0.out, ← hg.out]; exact rcAt_new _ _ _ _)
  have HC := Lib.hid (bare_any x iA ni ic nA nn nc W0 HIL.out HXL.out hni9 hnn9 c0 hc0.out)
  clear hc0
  obtain ⟨k, t1, t2, t3, l, xs, n1, n2, n3, n4, n5, n6, n7, n8, y⟩ := x
  dsimp only [rcA] at hW0
  obtain ⟨f0, f1, f2, f3, f4, f5, f6, f7, f8, f9, f10, f11, f12, f13, f14⟩ := rc_f HG0.out
  dsimp only at f0 f1 f2 f3 f4 f5 f6 f7 f8 f9 f10 f11 f12 f13 f14 hk
  subst hk
  go_enter Try.func61, Try.ntmps61
  go_wp2_with fail
  rw [hW0.out, hg.out]
  refine HC.out.mono ?_
  rintro e w1 ⟨rfl, hb1⟩
  have HB := Lib.hid (below2 hb0.out hb1)
  have HG := Lib.hid (HG0.out.below hb1)
  clear hb1 HC HG0 f0 f1 f2 f3 f4 f5 f6 f7 f8 f9 f10 f11 f12 f13 f14
  cases c0
  · go_wp2
    go_ret
    exact ⟨retbf hq0.out, HB.out⟩
  obtain ⟨f0, f1, f2, f3, f4, f5, f6, f7, f8, f9, f10, f11, f12, f13, f14⟩ := rc_f HG.out
  dsimp only at f0 f1 f2 f3 f4 f5 f6 f7 f8 f9 f10 f11 f12 f13 f14
  have hok : Hid (q = okB ⟨7, t1, t2, t3, l, xs, n1, n2, n3, n4, n5, n6, n7, n8, y⟩) := hq0
  obtain ⟨c1, hc1⟩ : ∃ c, Hid (tidR ⟨t1, t2, t3⟩ = c) := ⟨_, Lib.hid rfl⟩
  have hres : Hid (q = c1) := Lib.hid (by rw [← hc1.out, hok.out]; rfl)
  go_wp2_with fail
  refine (righttid_any ⟨t1, t2, t3⟩ _ c1 hc1.out).mono ?_
  rintro e w3 ⟨rfl, hb2⟩
  replace HB := Lib.hid (below2 HB.out hb2)
  replace HG := Lib.hid (HG.out.below hb2)
  clear hb2 f0 f1 f2 f3 f4 f5 f6 f7 f8 f9 f10 f11 f12 f13 f14
  obtain ⟨f0, f1, f2, f3, f4, f5, f6, f7, f8, f9, f10, f11, f12, f13, f14⟩ := rc_f HG.out
  dsimp only at f0 f1 f2 f3 f4 f5 f6 f7 f8 f9 f10 f11 f12 f13 f14
  go_wp2
  go_ret
  exact ⟨retv (congrArg Value.bool hres.out.symm), HB.out⟩
set_option maxHeartbeats 4000000 in
set_option maxRecDepth 100000 in
theorem right_8 (x : Rc) (iA : Option Addr) (ni ic : Nat) (nA : Option Addr) (nn nc : Nat) (w : World) (hk : x.k = 8) (hi' : Ims w iA ni x.l) (hx' : Rd w nA nn (x.xs.map (Value.int .i64))) (q : Bool) (hq : rightB x = q) : Calls Try.prog 61 #[.agg (rcA x (.slice iA ni ic) (.slice nA nn nc))] w fun e w' => e = .returned (.bool q) ∧ Below w.heap.size w w' := by
  have HIL := Lib.hid hi'.len
  have HXL : Hid (x.xs.length = nn) := Lib.hid (by simpa using hx'.len)
  have hni9 := hi'.rd.2.1
  have hnn9 := hx'.2.1
  have HI := Lib.hid hi'
  have HX := Lib.hid hx'
  clear hi' hx'
  obtain ⟨c0, hc0⟩ : ∃ c, Hid (bareB x = c) := ⟨_, Lib.hid rfl⟩
  have hq0 : Hid (q = (c0 && okB x)) := Lib.hid (by rw [← hc0.out, ← hq]; rfl)
  clear hq
  obtain ⟨g, hg⟩ : ∃ g, Hid (w.heap.size = g) := ⟨_, Lib.hid rfl⟩
  obtain ⟨W0, hW0⟩ : ∃ W0, Hid (w.alloc (.cells (rcA x (.slice iA ni ic) (.slice nA nn nc)) 89) = W0) := ⟨_, Lib.hid rfl⟩
  have hb0 : Hid (Below w.heap.size w W0) := Lib.hid (by rw [← hW0.out]; exact below_alloc _ _)
  have HG0 : Hid (RcAt g x (.slice iA ni ic) (.slice nA nn nc) W0) := Lib.hid (by rw [← hW0.out, ← hg.out]; exact rcAt_new _ _ _ _)
  have HC := Lib.hid (bare_any x iA ni ic nA nn nc W0 HIL.out HXL.out hni9 hnn9 c0 hc0.out)
  clear hc0
  obtain ⟨k, t1, t2, t3, l, xs, n1, n2, n3, n4, n5, n6, n7, n8, y⟩ := x
  dsimp only [rcA] at hW0
  obtain ⟨f0, f1, f2, f3, f4, f5, f6, f7, f8, f9, f10, f11, f12, f13, f14⟩ := rc_f HG0.out
  dsimp only at f0 f1 f2 f3 f4 f5 f6 f7 f8 f9 f10 f11 f12 f13 f14 hk
  subst hk
  go_enter Try.func61, Try.ntmps61
  go_wp2_with fail
  rw [hW0.out, hg.out]
  refine HC.out.mono ?_
  rintro e w1 ⟨rfl, hb1⟩
  have HB := Lib.hid (below2 hb0.out hb1)
  have HG := Lib.hid (HG0.out.below hb1)
  clear hb1 HC HG0 f0 f1 f2 f3 f4 f5 f6 f7 f8 f9 f10 f11 f12 f13 f14
  cases c0
  · go_wp2
    go_ret
    exact ⟨retbf hq0.out, HB.out⟩
  obtain ⟨f0, f1, f2, f3, f4, f5, f6, f7, f8, f9, f10, f11, f12, f13, f14⟩ := rc_f HG.out
  dsimp only at f0 f1 f2 f3 f4 f5 f6 f7 f8 f9 f10 f11 f12 f13 f14
  have hok : Hid (q = okB ⟨8, t1, t2, t3, l, xs, n1, n2, n3, n4, n5, n6, n7, n8, y⟩) := hq0
  obtain ⟨c1, hc1⟩ : ∃ c, Hid (placedB ⟨8, t1, t2, t3, l, xs, n1, n2, n3, n4, n5, n6, n7, n8, y⟩ 1 = c) := ⟨_, Lib.hid rfl⟩
  obtain ⟨c2, hc2⟩ : ∃ c, Hid (btw 1 16 n1 = c) := ⟨_, Lib.hid rfl⟩
  have hres : Hid (q = (c1 && c2)) := Lib.hid (by rw [← hc1.out, ← hc2.out, hok.out]; rfl)
  go_wp2_with fail
  refine (placed_any ⟨8, t1, t2, t3, l, xs, n1, n2, n3, n4, n5, n6, n7, n8, y⟩ iA ni ic nA nn nc 1 _ c1 hc1.out).mono ?_
  rintro e w3 ⟨rfl, hb2⟩
  replace HB := Lib.hid (below2 HB.out hb2)
  replace HG := Lib.hid (HG.out.below hb2)
  clear hb2 f0 f1 f2 f3 f4 f5 f6 f7 f8 f9 f10 f11 f12 f13 f14
  obtain ⟨f0, f1, f2, f3, f4, f5, f6, f7, f8, f9, f10, f11, f12, f13, f14⟩ := rc_f HG.out
  dsimp only at f0 f1 f2 f3 f4 f5 f6 f7 f8 f9 f10 f11 f12 f13 f14
  cases c1
  · go_wp2
    go_ret
    exact ⟨retbf hres.out, HB.out⟩
  · go_wp2_with fail
    refine (inr_any n1 1 16 _ c2 hc2.out).mono ?_
    rintro e w2 ⟨rfl, rfl⟩
    go_wp2
    go_ret
    exact ⟨retv (congrArg Value.bool hres.out.symm), HB.out⟩
set_option maxHeartbeats 4000000 in
set_option maxRecDepth 100000 in
theorem right_11 (x : Rc) (iA : Option Addr) (ni ic : Nat) (nA : Option Addr) (nn nc : Nat) (w : World) (hk : x.k = 11) (hi' : Ims w iA ni x.l) (hx' : Rd w nA nn (x.xs.map (Value.int .i64))) (q : Bool) (hq : rightB x = q) : Calls Try.prog 61 #[.agg (rcA x (.slice iA ni ic) (.slice nA nn nc))] w fun e w' => e = .returned (.bool q) ∧ Below w.heap.size w w' := by
  have HIL := Lib.hid hi'.len
  have HXL : Hid (x.xs.length = nn) := Lib.hid (by simpa using hx'.len)
  have hni9 := hi'.rd.2.1
  have hnn9 := hx'.2.1
  have HI := Lib.hid hi'
  have HX := Lib.hid hx'
  clear hi' hx'
  obtain ⟨c0, hc0⟩ : ∃ c, Hid (bareB x = c) := ⟨_, Lib.hid rfl⟩
  have hq0 : Hid (q = (c0 && okB x)) := Lib.hid (by rw [← hc0.out, ← hq]; rfl)
  clear hq
  obtain ⟨g, hg⟩ : ∃ g, Hid (w.heap.size = g) := ⟨_, Lib.hid rfl⟩
  obtain ⟨W0, hW0⟩ : ∃ W0, Hid (w.alloc (.cells (rcA x (.slice iA ni ic) (.slice nA nn nc)) 89) = W0) := ⟨_, Lib.hid rfl⟩
  have hb0 : Hid (Below w.heap.size w W0) := Lib.hid (by rw [← hW0.out]; exact below_alloc _ _)
  have HG0 : Hid (RcAt g x (.slice iA ni ic) (.slice nA nn nc) W0) := Lib.hid (by rw [← hW0.out, ← hg.out]; exact rcAt_new _ _ _ _)
  have HC := Lib.hid (bare_any x iA ni ic nA nn nc W0 HIL.out HXL.out hni9 hnn9 c0 hc0.out)
  clear hc0
  obtain ⟨k, t1, t2, t3, l, xs, n1, n2, n3, n4, n5, n6, n7, n8, y⟩ := x
  dsimp only [rcA] at hW0
  obtain ⟨f0, f1, f2, f3, f4, f5, f6, f7, f8, f9, f10, f11, f12, f13, f14⟩ := rc_f HG0.out
  dsimp only at f0 f1 f2 f3 f4 f5 f6 f7 f8 f9 f10 f11 f12 f13 f14 hk
  subst hk
  go_enter Try.func61, Try.ntmps61
  go_wp2_with fail
  rw [hW0.out, hg.out]
  refine HC.out.mono ?_
  rintro e w1 ⟨rfl, hb1⟩
  have HB := Lib.hid (below2 hb0.out hb1)
  have HG := Lib.hid (HG0.out.below hb1)
  clear hb1 HC HG0 f0 f1 f2 f3 f4 f5 f6 f7 f8 f9 f10 f11 f12 f13 f14
  cases c0
  · go_wp2
    go_ret
    exact ⟨retbf hq0.out, HB.out⟩
  obtain ⟨f0, f1, f2, f3, f4, f5, f6, f7, f8, f9, f10, f11, f12, f13, f14⟩ := rc_f HG.out
  dsimp only at f0 f1 f2 f3 f4 f5 f6 f7 f8 f9 f10 f11 f12 f13 f14
  have hok : Hid (q = okB ⟨11, t1, t2, t3, l, xs, n1, n2, n3, n4, n5, n6, n7, n8, y⟩) := hq0
  obtain ⟨c1, hc1⟩ : ∃ c, Hid (tidR ⟨t1, t2, t3⟩ = c) := ⟨_, Lib.hid rfl⟩
  have hres : Hid (q = c1) := Lib.hid (by rw [← hc1.out, hok.out]; rfl)
  go_wp2_with fail
  refine (righttid_any ⟨t1, t2, t3⟩ _ c1 hc1.out).mono ?_
  rintro e w3 ⟨rfl, hb2⟩
  replace HB := Lib.hid (below2 HB.out hb2)
  replace HG := Lib.hid (HG.out.below hb2)
  clear hb2 f0 f1 f2 f3 f4 f5 f6 f7 f8 f9 f10 f11 f12 f13 f14
  obtain ⟨f0, f1, f2, f3, f4, f5, f6, f7, f8, f9, f10, f11, f12, f13, f14⟩ := rc_f HG.out
  dsimp only at f0 f1 f2 f3 f4 f5 f6 f7 f8 f9 f10 f11 f12 f13 f14
  go_wp2
  go_ret
  exact ⟨retv (congrArg Value.bool hres.out.symm), HB.out⟩
end Go.Proofs.Ytfpocddpnoighaa.Rc

/- record: Right, kind by kind. -/
namespace Go.Proofs.Ytfpocddpnoighaa.Rc
open Go.RowKit Go.Proofs.Ytfpocddpnoighaa.L Go.Proofs.Ytfpocddpnoighaa.O Go.Proofs.Ytfpocddpnoighaa.A Go.Proofs.Ytfpocddpnoighaa.R Go.Proofs.Ytfpocddpnoighaa.S Go.Proofs.Ytfpocddpnoighaa.T Go.Proofs.Ytfpocddpnoighaa.E Go.Proofs.Ytfpocddpnoighaa.F Go.Proofs.Ytfpocddpnoighaa.It
open Go.Proofs.Ytfpocddpnoighaa.Wr hiding str str_size str_list
set_option linter.unusedVariables false
set_option linter.unusedSimpArgs false

set_option maxHeartbeats 4000000 in
set_option maxRecDepth 100000 in
theorem right_9 (x : Rc) (iA : Option Addr) (ni ic : Nat) (nA : Option Addr) (nn nc : Nat) (w : World) (hk : x.k = 9) (hi' : Ims w iA ni x.l) (hx' : Rd w nA nn (x.xs.map (Value.int .i64))) (q : Bool) (hq : rightB x = q) : Calls Try.prog 61 #[.agg (rcA x (.slice iA ni ic) (.slice nA nn nc))] w fun e w' => e = .returned (.bool q) ∧ Below w.heap.size w w' := by
  have HIL := Lib.hid hi'.len
  have HXL : Hid (x.xs.length = nn) := Lib.hid (by simpa using hx'.len)
  have hni9 := hi'.rd.2.1
  have hnn9 := hx'.2.1
  have HI := Lib.hid hi'
  have HX := Lib.hid hx'
  clear hi' hx'
  obtain ⟨c0, hc0⟩ : ∃ c, Hid (bareB x = c) := ⟨_, Lib.hid rfl⟩
  have hq0 : Hid (q = (c0 && okB x)) := Lib.hid (by rw [← hc0.out, ← hq]; rfl)
  clear hq
  obtain ⟨g, hg⟩ : ∃ g, Hid (w.heap.size = g) := ⟨_, Lib.hid rfl⟩
  obtain ⟨W0, hW0⟩ : ∃ W0, Hid (w.alloc (.cells (rcA x (.slice iA ni ic) (.slice nA nn nc)) 89) = W0) := ⟨_, Lib.hid rfl⟩
  have hb0 : Hid (Below w.heap.size w W0) := Lib.hid (by rw [← hW0.out]; exact below_alloc _ _)
  have HG0 : Hid (RcAt g x (.slice iA ni ic) (.slice nA nn nc) W0) := Lib.hid (by rw [← hW0.out, ← hg.out]; exact rcAt_new _ _ _ _)
  have HC := Lib.hid (bare_any x iA ni ic nA nn nc W0 HIL.out HXL.out hni9 hnn9 c0 hc0.out)
  clear hc0
  obtain ⟨k, t1, t2, t3, l, xs, n1, n2, n3, n4, n5, n6, n7, n8, y⟩ := x
  dsimp only [rcA] at hW0
  obtain ⟨f0, f1, f2, f3, f4, f5, f6, f7, f8, f9, f10, f11, f12, f13, f14⟩ := rc_f HG0.out
  dsimp only at f0 f1 f2 f3 f4 f5 f6 f7 f8 f9 f10 f11 f12 f13 f14 hk
  subst hk
  go_enter Try.func61, Try.ntmps61
  go_wp2_with fail
  rw [hW0.out, hg.out]
  refine HC.out.mono ?_
  rintro e w1 ⟨rfl, hb1⟩
  have HB := Lib.hid (below2 hb0.out hb1)
  have HG := Lib.hid (HG0.out.below hb1)
  clear hb1 HC HG0 f0 f1 f2 f3 f4 f5 f6 f7 f8 f9 f10 f11 f12 f13 f14
  cases c0
  · go_wp2
    go_ret
    exact ⟨retbf hq0.out, HB.out⟩
  obtain ⟨f0, f1, f2, f3, f4, f5, f6, f7, f8, f9, f10, f11, f12, f13, f14⟩ := rc_f HG.out
  dsimp only at f0 f1 f2 f3 f4 f5 f6 f7 f8 f9 f10 f11 f12 f13 f14
  have hok : Hid (q = okB ⟨9, t1, t2, t3, l, xs, n1, n2, n3, n4, n5, n6, n7, n8, y⟩) := hq0
  obtain ⟨c1, hc1⟩ : ∃ c, Hid (placedB ⟨9, t1, t2, t3, l, xs, n1, n2, n3, n4, n5, n6, n7, n8, y⟩ 1 = c) := ⟨_, Lib.hid rfl⟩
  obtain ⟨c2, hc2⟩ : ∃ c, Hid (btw 0 1099511627776 n7 = c) := ⟨_, Lib.hid rfl⟩
  have hres : Hid (q = (c1 && c2)) := Lib.hid (by rw [← hc1.out, ← hc2.out, hok.out]; rfl)
  go_wp2_with fail
  refine (placed_any ⟨9, t1, t2, t3, l, xs, n1, n2, n3, n4, n5, n6, n7, n8, y⟩ iA ni ic nA nn nc 1 _ c1 hc1.out).mono ?_
  rintro e w3 ⟨rfl, hb2⟩
  replace HB := Lib.hid (below2 HB.out hb2)
  replace HG := Lib.hid (HG.out.below hb2)
  clear hb2 f0 f1 f2 f3 f4 f5 f6 f7 f8 f9 f10 f11 f12 f13 f14
  obtain ⟨f0, f1, f2, f3, f4, f5, f6, f7, f8, f9, f10, f11, f12, f13, f14⟩ := rc_f HG.out
  dsimp only at f0 f1 f2 f3 f4 f5 f6 f7 f8 f9 f10 f11 f12 f13 f14
  cases c1
  · go_wp2
    go_ret
    exact ⟨retbf hres.out, HB.out⟩
  · go_wp2_with fail
    refine (inr_any n7 0 1099511627776 _ c2 hc2.out).mono ?_
    rintro e w2 ⟨rfl, rfl⟩
    go_wp2
    go_ret
    exact ⟨retv (congrArg Value.bool hres.out.symm), HB.out⟩
set_option maxHeartbeats 4000000 in
set_option maxRecDepth 100000 in
theorem right_10 (x : Rc) (iA : Option Addr) (ni ic : Nat) (nA : Option Addr) (nn nc : Nat) (w : World) (hk : x.k = 10) (hi' : Ims w iA ni x.l) (hx' : Rd w nA nn (x.xs.map (Value.int .i64))) (q : Bool) (hq : rightB x = q) : Calls Try.prog 61 #[.agg (rcA x (.slice iA ni ic) (.slice nA nn nc))] w fun e w' => e = .returned (.bool q) ∧ Below w.heap.size w w' := by
  have HIL := Lib.hid hi'.len
  have HXL : Hid (x.xs.length = nn) := Lib.hid (by simpa using hx'.len)
  have hni9 := hi'.rd.2.1
  have hnn9 := hx'.2.1
  have HI := Lib.hid hi'
  have HX := Lib.hid hx'
  clear hi' hx'
  obtain ⟨c0, hc0⟩ : ∃ c, Hid (bareB x = c) := ⟨_, Lib.hid rfl⟩
  have hq0 : Hid (q = (c0 && okB x)) := Lib.hid (by rw [← hc0.out, ← hq]; rfl)
  clear hq
  obtain ⟨g, hg⟩ : ∃ g, Hid (w.heap.size = g) := ⟨_, Lib.hid rfl⟩
  obtain ⟨W0, hW0⟩ : ∃ W0, Hid (w.alloc (.cells (rcA x (.slice iA ni ic) (.slice nA nn nc)) 89) = W0) := ⟨_, Lib.hid rfl⟩
  have hb0 : Hid (Below w.heap.size w W0) := Lib.hid (by rw [← hW0.out]; exact below_alloc _ _)
  have HG0 : Hid (RcAt g x (.slice iA ni ic) (.slice nA nn nc) W0) := Lib.hid (by rw [← hW0.out, ← hg.out]; exact rcAt_new _ _ _ _)
  have HC := Lib.hid (bare_any x iA ni ic nA nn nc W0 HIL.out HXL.out hni9 hnn9 c0 hc0.out)
  clear hc0
  obtain ⟨k, t1, t2, t3, l, xs, n1, n2, n3, n4, n5, n6, n7, n8, y⟩ := x
  dsimp only [rcA] at hW0
  obtain ⟨f0, f1, f2, f3, f4, f5, f6, f7, f8, f9, f10, f11, f12, f13, f14⟩ := rc_f HG0.out
  dsimp only at f0 f1 f2 f3 f4 f5 f6 f7 f8 f9 f10 f11 f12 f13 f14 hk
  subst hk
  go_enter Try.func61, Try.ntmps61
  go_wp2_with fail
  rw [hW0.out, hg.out]
  refine HC.out.mono ?_
  rintro e w1 ⟨rfl, hb1⟩
  have HB := Lib.hid (below2 hb0.out hb1)
  have HG := Lib.hid (HG0.out.below hb1)
  clear hb1 HC HG0 f0 f1 f2 f3 f4 f5 f6 f7 f8 f9 f10 f11 f12 f13 f14
  cases c0
  · go_wp2
    go_ret
    exact ⟨retbf hq0.out, HB.out⟩
  obtain ⟨f0, f1, f2, f3, f4, f5, f6, f7, f8, f9, f10, f11, f12, f13, f14⟩ := rc_f HG.out
  dsimp only at f0 f1 f2 f3 f4 f5 f6 f7 f8 f9 f10 f11 f12 f13 f14
  have hok : Hid (q = okB ⟨10, t1, t2, t3, l, xs, n1, n2, n3, n4, n5, n6, n7, n8, y⟩) := hq0
  obtain ⟨c1, hc1⟩ : ∃ c, Hid (placedB ⟨10, t1, t2, t3, l, xs, n1, n2, n3, n4, n5, n6, n7, n8, y⟩ 1 = c) := ⟨_, Lib.hid rfl⟩
  have hres : Hid (q = c1) := Lib.hid (by rw [← hc1.out, hok.out]; rfl)
  go_wp2_with fail
  refine (placed_any ⟨10, t1, t2, t3, l, xs, n1, n2, n3, n4, n5, n6, n7, n8, y⟩ iA ni ic nA nn nc 1 _ c1 hc1.out).mono ?_
  rintro e w3 ⟨rfl, hb2⟩
  replace HB := Lib.hid (below2 HB.out hb2)
  replace HG := Lib.hid (HG.out.below hb2)
  clear hb2 f0 f1 f2 f3 f4 f5 f6 f7 f8 f9 f10 f11 f12 f13 f14
  obtain ⟨f0, f1, f2, f3, f4, f5, f6, f7, f8, f9, f10, f11, f12, f13, f14⟩ := rc_f HG.out
  dsimp only at f0 f1 f2 f3 f4 f5 f6 f7 f8 f9 f10 f11 f12 f13 f14
  go_wp2
  go_ret
  exact ⟨retv (congrArg Value.bool hres.out.symm), HB.out⟩
set_option maxHeartbeats 4000000 in
set_option maxRecDepth 100000 in
theorem right_o (x : Rc) (iA : Option Addr) (ni ic : Nat) (nA : Option Addr) (nn nc : Nat) (w : World) (h1 : ¬ x.k = 1) (h2 : ¬ x.k = 2) (h3 : ¬ x.k = 3) (h4 : ¬ x.k = 4) (h5 : ¬ x.k = 5) (h6 : ¬ x.k = 6) (h7 : ¬ x.k = 7) (h8 : ¬ x.k = 8) (h9 : ¬ x.k = 9) (h10 : ¬ x.k = 10) (h11 : ¬ x.k = 11)  (hi' : Ims w iA ni x.l) (hx' : Rd w nA nn (x.xs.map (Value.int .i64))) (q : Bool) (hq : rightB x = q) : Calls Try.prog 61 #[.agg (rcA x (.slice iA ni ic) (.slice nA nn nc))] w fun e w' => e = .returned (.bool q) ∧ Below w.heap.size w w' := by
  have HIL := Lib.hid hi'.len
  have HXL : Hid (x.xs.length = nn) := Lib.hid (by simpa using hx'.len)
  have hni9 := hi'.rd.2.1
  have hnn9 := hx'.2.1
  have HI := Lib.hid hi'
  have HX := Lib.hid hx'
  clear hi' hx'
  obtain ⟨c0, hc0⟩ : ∃ c, Hid (bareB x = c) := ⟨_, Lib.hid rfl⟩
  have hq0 : Hid (q = (c0 && okB x)) := Lib.hid (by rw [← hc0.out, ← hq]; rfl)
  clear hq
  obtain ⟨g, hg⟩ : ∃ g, Hid (w.heap.size = g) := ⟨_, Lib.hid rfl⟩
  obtain ⟨W0, hW0⟩ : ∃ W0, Hid (w.alloc (.cells (rcA x (.slice iA ni ic) (.slice nA nn nc)) 89) = W0) := ⟨_, Lib.hid rfl⟩
  have hb0 : Hid (Below w.heap.size w W0) := Lib.hid (by rw [← hW0.out]; exact below_alloc _ _)
  have HG0 : Hid (RcAt g x (.slice iA ni ic) (.slice nA nn nc) W0) := Lib.hid (by rw [← hW0.out, ← hg.out]; exact rcAt_new _ _ _ _)
  have HC := Lib.hid (bare_any x iA ni ic nA nn nc W0 HIL.out HXL.out hni9 hnn9 c0 hc0.out)
  clear hc0
  obtain ⟨k, t1, t2, t3, l, xs, n1, n2, n3, n4, n5, n6, n7, n8, y⟩ := x
  dsimp only [rcA] at hW0
  obtain ⟨f0, f1, f2, f3, f4, f5, f6, f7, f8, f9, f10, f11, f12, f13, f14⟩ := rc_f HG0.out
  dsimp only at f0 f1 f2 f3 f4 f5 f6 f7 f8 f9 f10 f11 f12 f13 f14 h1 h2 h3 h4 h5 h6 h7 h8 h9 h10 h11
  go_enter Try.func61, Try.ntmps61
  go_wp2_with fail
  rw [hW0.out, hg.out]
  refine HC.out.mono ?_
  rintro e w1 ⟨rfl, hb1⟩
  have HB := Lib.hid (below2 hb0.out hb1)
  have HG := Lib.hid (HG0.out.below hb1)
  clear hb1 HC HG0 f0 f1 f2 f3 f4 f5 f6 f7 f8 f9 f10 f11 f12 f13 f14
  cases c0
  · go_wp2
    go_ret
    exact ⟨retbf hq0.out, HB.out⟩
  obtain ⟨f0, f1, f2, f3, f4, f5, f6, f7, f8, f9, f10, f11, f12, f13, f14⟩ := rc_f HG.out
  dsimp only at f0 f1 f2 f3 f4 f5 f6 f7 f8 f9 f10 f11 f12 f13 f14
  have hok : Hid (q = (k == 12)) := Lib.hid (by rw [hq0.out]; simp only [Bool.true_and]; unfold okB; simp only [h1, h2, h3, h4, h5, h6, h7, h8, h9, h10, h11, if_false])
  clear hq0
  go_wp2
  go_ret
  exact ⟨retv (congrArg Value.bool hok.out.symm), HB.out⟩
end Go.Proofs.Ytfpocddpnoighaa.Rc

/- record: Right. -/
namespace Go.Proofs.Ytfpocddpnoighaa.Rc
open Go.RowKit Go.Proofs.Ytfpocddpnoighaa.L Go.Proofs.Ytfpocddpnoighaa.O Go.Proofs.Ytfpocddpnoighaa.A Go.Proofs.Ytfpocddpnoighaa.R Go.Proofs.Ytfpocddpnoighaa.S Go.Proofs.Ytfpocddpnoighaa.T Go.Proofs.Ytfpocddpnoighaa.E Go.Proofs.Ytfpocddpnoighaa.F Go.Proofs.Ytfpocddpnoighaa.It
open Go.Proofs.Ytfpocddpnoighaa.Wr hiding str str_size str_list
set_option linter.unusedVariables false
set_option linter.unusedSimpArgs false

theorem right_any (x : Rc) (iA : Option Addr) (ni ic : Nat) (nA : Option Addr) (nn nc : Nat) (w : World) (hi' : Ims w iA ni x.l) (hx' : Rd w nA nn (x.xs.map (Value.int .i64))) (q : Bool) (hq : rightB x = q) : Calls Try.prog 61 #[.agg (rcA x (.slice iA ni ic) (.slice nA nn nc))] w fun e w' => e = .returned (.bool q) ∧ Below w.heap.size w w' := by
  by_cases h1 : x.k = 1
  · exact right_1 x _ _ _ _ _ _ w h1 hi' hx' q hq
  by_cases h2 : x.k = 2
  · exact right_2 x _ _ _ _ _ _ w h2 hi' hx' q hq
  by_cases h3 : x.k = 3
  · exact right_3 x _ _ _ _ _ _ w h3 hi' hx' q hq
  by_cases h4 : x.k = 4
  · exact right_4 x _ _ _ _ _ _ w h4 hi' hx' q hq
  by_cases h5 : x.k = 5
  · exact right_5 x _ _ _ _ _ _ w h5 hi' hx' q hq
  by_cases h6 : x.k = 6
  · exact right_6 x _ _ _ _ _ _ w h6 hi' hx' q hq
  by_cases h7 : x.k = 7
  · exact right_7 x _ _ _ _ _ _ w h7 hi' hx' q hq
  by_cases h8 : x.k = 8
  · exact right_8 x _ _ _ _ _ _ w h8 hi' hx' q hq
  by_cases h9 : x.k = 9
  · exact right_9 x _ _ _ _ _ _ w h9 hi' hx' q hq
  by_cases h10 : x.k = 10
  · exact right_10 x _ _ _ _ _ _ w h10 hi' hx' q hq
  by_cases h11 : x.k = 11
  · exact right_11 x _ _ _ _ _ _ w h11 hi' hx' q hq
  exact right_o x _ _ _ _ _ _ w h1 h2 h3 h4 h5 h6 h7 h8 h9 h10 h11 hi' hx' q hq
end Go.Proofs.Ytfpocddpnoighaa.Rc

/- record: a new writer, step by step. -/
namespace Go.Proofs.Ytfpocddpnoighaa.Rc
open Go.RowKit Go.Proofs.Ytfpocddpnoighaa.L Go.Proofs.Ytfpocddpnoighaa.O Go.Proofs.Ytfpocddpnoighaa.A Go.Proofs.Ytfpocddpnoighaa.R Go.Proofs.Ytfpocddpnoighaa.S Go.Proofs.Ytfpocddpnoighaa.T Go.Proofs.Ytfpocddpnoighaa.E Go.Proofs.Ytfpocddpnoighaa.F Go.Proofs.Ytfpocddpnoighaa.It
open Go.Proofs.Ytfpocddpnoighaa.Wr hiding str str_size str_list
set_option linter.unusedVariables false
set_option linter.unusedSimpArgs false

variable {w1 W : World} {b : Nat} {bs : List UInt8}
theorem Nw.below (H : Wrs w1 b [] bs false W) : Below w1.heap.size w1 W := H.keep.below (Nat.le_refl _) (by simp)
theorem enc_byte (H : Wrs w1 b [] bs false W) (c : UInt8) (g : Nat) (hg : W.heap.size = g) (T : TypeId) (hl : bs.length + 1 ≤ 140737488355328) :
    Calls Try.prog 78 #[.pointer (some ⟨b, 0, none⟩), .slice (some ⟨g, 0, none⟩) 1 1] (W.alloc (.cells #[.int .u8 (c.toNat : Nat)] T)) fun e w' => e = .returned (.tuple #[]) ∧ Wrs w1 b [] (bs ++ [c]) false w' := by
  subst hg
  exact acc2 H (below_alloc _ _) (fun r h hlt => byte_any b r bs false [c] _ 1 1 _ h (rd_bytes 1 (heap_alloc_new _ _) rfl rfl (by decide)) (fun _ o ho hm => by
    cases ho; exact Nat.lt_irrefl _ (hlt _ hm)) hl)
theorem enc_nums (H : Wrs w1 b [] bs false W) (l : List Int) (n : Nat) (hn : l.length = n) (hn9 : n ≤ 1000) (g : Nat) (hg : W.heap.size = g) (T : TypeId) (hl : bs.length + l.length * 8 ≤ 140737488355328) :
    Calls Try.prog 76 #[.pointer (some ⟨b, 0, none⟩), .slice (some ⟨g, 0, none⟩) n n] (W.alloc (.cells (l.map (Value.int .i64)).toArray T)) fun e w' => e = .returned (.tuple #[]) ∧ Wrs w1 b [] (bs ++ numsB l) false w' := by
  subst hg
  exact acc2 H (below_alloc _ _) (fun r h hlt => nums_any b r bs false l _ n n _ h (rd_ints n (heap_alloc_new _ _) rfl hn (by omega)) (fun _ o ho hm => by
    cases ho; exact Nat.lt_irrefl _ (hlt _ hm)) hl)
theorem enc_tid (H : Wrs w1 b [] bs false W) (x y z : Int) (hl : bs.length + 24 ≤ 140737488355328) :
    Calls Try.prog 40 #[.pointer (some ⟨b, 0, none⟩), .agg #[.int .i64 x, .int .i64 y, .int .i64 z]] W fun e w' => e = .returned (.tuple #[]) ∧ Wrs w1 b [] (bs ++ numsB [x, y, z]) false w' :=
  acc3 H (fun r h _ => tid_put b r bs false x y z W h hl)
theorem enc_bool (H : Wrs w1 b [] bs false W) (q : Bool) (hl : bs.length + 1 ≤ 140737488355328) :
    Calls Try.prog 79 #[.pointer (some ⟨b, 0, none⟩), .bool q] W fun e w' => e = .returned (.tuple #[]) ∧ Wrs w1 b [] (bs ++ [if q then 1 else 0]) false w' :=
  acc3 H (fun r h _ => bool_any b r bs false q W h hl)
theorem enc_items (H : Wrs w1 b [] bs false W) (l : List Im) (A : Option Addr) (n c : Nat) (hI : Ims w1 A n l) (hn : n ≤ 65535) (hl : bs.length + 2 + n * 33 ≤ 140737488355328) :
    Calls Try.prog 41 #[.pointer (some ⟨b, 0, none⟩), .slice A n c] W fun e w' => e = .returned (.tuple #[]) ∧ Wrs w1 b [] (bs ++ (bigB n 2 ++ itemsB l)) false w' :=
  acc3 H (fun r h hbk => items_put b r bs false l A n c W h (hI.below (Nw.below H)) (fun h0 o ho hm => by
    rcases hbk _ hm with e | e
    · simp at e
    · have := RdE.lt hI.rd (by omega) h0 o ho; omega) hn hl)
theorem enc_nodes (H : Wrs w1 b [] bs false W) (xs : List Int) (A : Option Addr) (n c : Nat) (hX : Rd w1 A n (xs.map (Value.int .i64))) (hn : n ≤ 65535) (hl : bs.length + 2 + n * 8 ≤ 140737488355328) :
    Calls Try.prog 42 #[.pointer (some ⟨b, 0, none⟩), .slice A n c] W fun e w' => e = .returned (.tuple #[]) ∧ Wrs w1 b [] (bs ++ (bigB n 2 ++ numsB xs)) false w' :=
  acc3 H (fun r h hbk => nodes_put b r bs false xs A n c W h (hX.below (Nw.below H)) (fun h0 o ho hm => by
    rcases hbk _ hm with e | e
    · simp at e
    · have := rd_lt hX h0 o ho; omega) hn hl)
theorem enc_str (H : Wrs w1 b [] bs false W) (s : ByteArray) (hs : saysB bs false = s) (hl : bs.length ≤ 9223372036854775807) :
    Calls Try.prog 23 #[.pointer (some ⟨b, 0, none⟩)] W fun e w' => e = .returned (.string s) ∧ Below w1.heap.size w1 w' := by
  obtain ⟨r, h1, h2⟩ := H.out
  refine (string_any b r bs false W h1.f hl).mono fun e w' ⟨he, _, hk⟩ => ⟨by rw [he, hs], ?_⟩
  exact (Nw.below H).trans (hk.below (Nw.below H).size (fun x hx => by
    rcases h2 x (by simpa using hx) with e | e
    · simp at e
    · exact e))
end Go.Proofs.Ytfpocddpnoighaa.Rc

/- record: Encode, kind by kind. -/
namespace Go.Proofs.Ytfpocddpnoighaa.Rc
open Go.RowKit Go.Proofs.Ytfpocddpnoighaa.L Go.Proofs.Ytfpocddpnoighaa.O Go.Proofs.Ytfpocddpnoighaa.A Go.Proofs.Ytfpocddpnoighaa.R Go.Proofs.Ytfpocddpnoighaa.S Go.Proofs.Ytfpocddpnoighaa.T Go.Proofs.Ytfpocddpnoighaa.E Go.Proofs.Ytfpocddpnoighaa.F Go.Proofs.Ytfpocddpnoighaa.It
open Go.Proofs.Ytfpocddpnoighaa.Wr hiding str str_size str_list
set_option linter.unusedVariables false
set_option linter.unusedSimpArgs false

set_option maxHeartbeats 8000000 in
set_option maxRecDepth 100000 in
theorem enc_1 (x : Rc) (iA : Option Addr) (ni ic : Nat) (nA : Option Addr) (nn nc : Nat) (w : World) (hk : x.k = 1) (hi' : Ims w iA ni x.l) (hx' : Rd w nA nn (x.xs.map (Value.int .i64))) (hr : rightB x = true) : Calls Try.prog 57 #[.agg (rcA x (.slice iA ni ic) (.slice nA nn nc))] w fun e w' => e = .returned (.tuple #[.string (str (encB x)), .int .i64 0]) ∧ Below w.heap.size w w' := by
  have HIL := Lib.hid hi'.len
  have HXL : Hid (x.xs.length = nn) := Lib.hid (by simpa using hx'.len)
  have HI := Lib.hid hi'
  have HX := Lib.hid hx'
  clear hi' hx'
  obtain ⟨g, hg⟩ : ∃ g, Hid (w.heap.size = g) := ⟨_, Lib.hid rfl⟩
  obtain ⟨W0, hW0⟩ : ∃ W0, Hid (w.alloc (.cells (rcA x (.slice iA ni ic) (.slice nA nn nc)) 89) = W0) := ⟨_, Lib.hid rfl⟩
  have hb0 : Hid (Below w.heap.size w W0) := Lib.hid (by rw [← hW0.out]; exact below_alloc _ _)
  have HG0 : Hid (RcAt g x (.slice iA ni ic) (.slice nA nn nc) W0) := Lib.hid (by rw [← hW0.out, ← hg.out]; exact rcAt_new _ _ _ _)
  have HC := Lib.hid (right_any x iA ni ic nA nn nc W0 (HI.out.below hb0.out) (HX.out.below hb0.out) true hr)
  obtain ⟨k, t1, t2, t3, l, xs, n1, n2, n3, n4, n5, n6, n7, n8, y⟩ := x
  dsimp only [rcA] at hW0
  dsimp only at hk HIL HXL HI HX
  subst hk
  obtain ⟨bs1, hbs1⟩ : ∃ z, Hid ([] ++ [(1 : UInt8)] = z) := ⟨_, Lib.hid rfl⟩
  have hn1' : bs1.length = 1 := by rw [← hbs1.out]; rfl
  obtain ⟨bs2, hbs2⟩ : ∃ z, Hid (bs1 ++ numsB [n1, n2, n3] = z) := ⟨_, Lib.hid rfl⟩
  have hn2' : bs2.length ≤ 25 := by rw [← hbs2.out]; simp [len_nums, len_items, len_big]; omega
  have hl1 := Lib.hid (show bs1.length + ([n1, n2, n3] : List Int).length * 8 ≤ 140737488355328 by simp; omega)
  have hle := Lib.hid (show bs2.length ≤ 9223372036854775807 by omega)
  have hfin : Hid (saysB bs2 false = str (encB ⟨1, t1, t2, t3, l, xs, n1, n2, n3, n4, n5, n6, n7, n8, y⟩)) := Lib.hid (by
    rw [← hbs2.out, ← hbs1.out]
    show str _ = str _
    congr 1
    unfold encB bodyB
    rw [show kB 1 = [1] by kernel_rfl]
    simp)
  clear hn1' hn2'
  clear hr
  obtain ⟨f0, f1, f2, f3, f4, f5, f6, f7, f8, f9, f10, f11, f12, f13, f14⟩ := rc_f HG0.out
  dsimp only at f0 f1 f2 f3 f4 f5 f6 f7 f8 f9 f10 f11 f12 f13 f14
  go_enter Try.func57, Try.ntmps57
  go_wp2_with fail
  rw [hW0.out, hg.out]
  refine HC.out.mono ?_
  rintro e w1 ⟨rfl, hb1⟩
  have HB := Lib.hid (below2 hb0.out hb1)
  have HG := Lib.hid (HG0.out.below hb1)
  have HI1 := Lib.hid (HI.out.below HB.out)
  have HX1 := Lib.hid (HX.out.below HB.out)
  clear hb1 HC HG0 f0 f1 f2 f3 f4 f5 f6 f7 f8 f9 f10 f11 f12 f13 f14
  obtain ⟨f0, f1, f2, f3, f4, f5, f6, f7, f8, f9, f10, f11, f12, f13, f14⟩ := rc_f HG.out
  dsimp only at f0 f1 f2 f3 f4 f5 f6 f7 f8 f9 f10 f11 f12 f13 f14
  have y0 := fun o => cell_below (below_alloc _ o) f0
  obtain ⟨b, hb⟩ : ∃ b, Hid (w1.heap.size = b) := ⟨_, Lib.hid rfl⟩
  have hw0 := wrs_new w1 65 (.inr rfl)
  obtain ⟨wB, hwB⟩ : ∃ wB, Hid (w1.alloc (.cells #[.pointer none, .slice none 0 0, .bool false] 65) = wB) := ⟨_, Lib.hid rfl⟩
  have hsB : Hid (wB.heap.size = b + 1) := Lib.hid (by rw [← hwB.out, ← hb.out]; simp)
  rw [hb.out, hwB.out] at hw0
  have H0 := Lib.hid hw0
  clear hw0
  go_wp2_with fail
  rw [hwB.out, hb.out]
  refine (enc_byte H0.out 1 _ hsB.out _ (by decide)).mono ?_
  rintro e w2 ⟨rfl, h2⟩
  rw [hbs1.out] at h2
  clear y0 f0 f1 f2 f3 f4 f5 f6 f7 f8 f9 f10 f11 f12 f13 f14
  obtain ⟨f0, f1, f2, f3, f4, f5, f6, f7, f8, f9, f10, f11, f12, f13, f14⟩ := rc_f (HG.out.below (Nw.below h2))
  dsimp only at f0 f1 f2 f3 f4 f5 f6 f7 f8 f9 f10 f11 f12 f13 f14
  have H1 := Lib.hid h2
  clear h2
  go_wp2_with fail
  refine (enc_nums H1.out [n1, n2, n3] 3 rfl (by decide) _ rfl _ hl1.out).mono ?_
  rintro e w3 ⟨rfl, h2⟩
  rw [hbs2.out] at h2
  clear f0 f1 f2 f3 f4 f5 f6 f7 f8 f9 f10 f11 f12 f13 f14
  obtain ⟨f0, f1, f2, f3, f4, f5, f6, f7, f8, f9, f10, f11, f12, f13, f14⟩ := rc_f (HG.out.below (Nw.below h2))
  dsimp only at f0 f1 f2 f3 f4 f5 f6 f7 f8 f9 f10 f11 f12 f13 f14
  have H2 := Lib.hid h2
  clear h2
  go_wp2_with fail
  refine (enc_str H2.out _ hfin.out hle.out).mono ?_
  rintro e w9 ⟨rfl, h9⟩
  have H9 := Lib.hid (below2 HB.out h9)
  clear h9 f0 f1 f2 f3 f4 f5 f6 f7 f8 f9 f10 f11 f12 f13 f14
  go_wp2
  go_ret2
  exact ⟨rfl, H9.out⟩
set_option maxHeartbeats 8000000 in
set_option maxRecDepth 100000 in
theorem enc_2 (x : Rc) (iA : Option Addr) (ni ic : Nat) (nA : Option Addr) (nn nc : Nat) (w : World) (hk : x.k = 2) (hi' : Ims w iA ni x.l) (hx' : Rd w nA nn (x.xs.map (Value.int .i64))) (hr : rightB x = true) : Calls Try.prog 57 #[.agg (rcA x (.slice iA ni ic) (.slice nA nn nc))] w fun e w' => e = .returned (.tuple #[.string (str (encB x)), .int .i64 0]) ∧ Below w.heap.size w w' := by
  have HIL := Lib.hid hi'.len
  have HXL : Hid (x.xs.length = nn) := Lib.hid (by simpa using hx'.len)
  have HI := Lib.hid hi'
  have HX := Lib.hid hx'
  clear hi' hx'
  obtain ⟨g, hg⟩ : ∃ g, Hid (w.heap.size = g) := ⟨_, Lib.hid rfl⟩
  obtain ⟨W0, hW0⟩ : ∃ W0, Hid (w.alloc (.cells (rcA x (.slice iA ni ic) (.slice nA nn nc)) 89) = W0) := ⟨_, Lib.hid rfl⟩
  have hb0 : Hid (Below w.heap.size w W0) := Lib.hid (by rw [← hW0.out]; exact below_alloc _ _)
  have HG0 : Hid (RcAt g x (.slice iA ni ic) (.slice nA nn nc) W0) := Lib.hid (by rw [← hW0.out, ← hg.out]; exact rcAt_new _ _ _ _)
  have HC := Lib.hid (right_any x iA ni ic nA nn nc W0 (HI.out.below hb0.out) (HX.out.below hb0.out) true hr)
  obtain ⟨k, t1, t2, t3, l, xs, n1, n2, n3, n4, n5, n6, n7, n8, y⟩ := x
  dsimp only [rcA] at hW0
  dsimp only at hk HIL HXL HI HX
  subst hk
  obtain ⟨bs1, hbs1⟩ : ∃ z, Hid ([] ++ [(2 : UInt8)] = z) := ⟨_, Lib.hid rfl⟩
  have hn1' : bs1.length = 1 := by rw [← hbs1.out]; rfl
  obtain ⟨bs2, hbs2⟩ : ∃ z, Hid (bs1 ++ numsB [n3] = z) := ⟨_, Lib.hid rfl⟩
  have hn2' : bs2.length ≤ 9 := by rw [← hbs2.out]; simp [len_nums, len_items, len_big]; omega
  have hl1 := Lib.hid (show bs1.length + ([n3] : List Int).length * 8 ≤ 140737488355328 by simp; omega)
  have hle := Lib.hid (show bs2.length ≤ 9223372036854775807 by omega)
  have hfin : Hid (saysB bs2 false = str (encB ⟨2, t1, t2, t3, l, xs, n1, n2, n3, n4, n5, n6, n7, n8, y⟩)) := Lib.hid (by
    rw [← hbs2.out, ← hbs1.out]
    show str _ = str _
    congr 1
    unfold encB bodyB
    rw [show kB 2 = [2] by kernel_rfl]
    simp)
  clear hn1' hn2'
  clear hr
  obtain ⟨f0, f1, f2, f3, f4, f5, f6, f7, f8, f9, f10, f11, f12, f13, f14⟩ := rc_f HG0.out
  dsimp only at f0 f1 f2 f3 f4 f5 f6 f7 f8 f9 f10 f11 f12 f13 f14
  go_enter Try.func57, Try.ntmps57
  go_wp2_with fail
  rw [hW0.out, hg.out]
  refine HC.out.mono ?_
  rintro e w1 ⟨rfl, hb1⟩
  have HB := Lib.hid (below2 hb0.out hb1)
  have HG := Lib.hid (HG0.out.below hb1)
  have HI1 := Lib.hid (HI.out.below HB.out)
  have HX1 := Lib.hid (HX.out.below HB.out)
  clear hb1 HC HG0 f0 f1 f2 f3 f4 f5 f6 f7 f8 f9 f10 f11 f12 f13 f14
  obtain ⟨f0, f1, f2, f3, f4, f5, f6, f7, f8, f9, f10, f11, f12, f13, f14⟩ := rc_f HG.out
  dsimp only at f0 f1 f2 f3 f4 f5 f6 f7 f8 f9 f10 f11 f12 f13 f14
  have y0 := fun o => cell_below (below_alloc _ o) f0
  obtain ⟨b, hb⟩ : ∃ b, Hid (w1.heap.size = b) := ⟨_, Lib.hid rfl⟩
  have hw0 := wrs_new w1 65 (.inr rfl)
  obtain ⟨wB, hwB⟩ : ∃ wB, Hid (w1.alloc (.cells #[.pointer none, .slice none 0 0, .bool false] 65) = wB) := ⟨_, Lib.hid rfl⟩
  have hsB : Hid (wB.heap.size = b + 1) := Lib.hid (by rw [← hwB.out, ← hb.out]; simp)
  rw [hb.out, hwB.out] at hw0
  have H0 := Lib.hid hw0
  clear hw0
  go_wp2_with fail
  rw [hwB.out, hb.out]
  refine (enc_byte H0.out 2 _ hsB.out _ (by decide)).mono ?_
  rintro e w2 ⟨rfl, h2⟩
  rw [hbs1.out] at h2
  clear y0 f0 f1 f2 f3 f4 f5 f6 f7 f8 f9 f10 f11 f12 f13 f14
  obtain ⟨f0, f1, f2, f3, f4, f5, f6, f7, f8, f9, f10, f11, f12, f13, f14⟩ := rc_f (HG.out.below (Nw.below h2))
  dsimp only at f0 f1 f2 f3 f4 f5 f6 f7 f8 f9 f10 f11 f12 f13 f14
  have H1 := Lib.hid h2
  clear h2
  go_wp2_with fail
  refine (enc_nums H1.out [n3] 1 rfl (by decide) _ rfl _ hl1.out).mono ?_
  rintro e w3 ⟨rfl, h2⟩
  rw [hbs2.out] at h2
  clear f0 f1 f2 f3 f4 f5 f6 f7 f8 f9 f10 f11 f12 f13 f14
  obtain ⟨f0, f1, f2, f3, f4, f5, f6, f7, f8, f9, f10, f11, f12, f13, f14⟩ := rc_f (HG.out.below (Nw.below h2))
  dsimp only at f0 f1 f2 f3 f4 f5 f6 f7 f8 f9 f10 f11 f12 f13 f14
  have H2 := Lib.hid h2
  clear h2
  go_wp2_with fail
  refine (enc_str H2.out _ hfin.out hle.out).mono ?_
  rintro e w9 ⟨rfl, h9⟩
  have H9 := Lib.hid (below2 HB.out h9)
  clear h9 f0 f1 f2 f3 f4 f5 f6 f7 f8 f9 f10 f11 f12 f13 f14
  go_wp2
  go_ret2
  exact ⟨rfl, H9.out⟩
set_option maxHeartbeats 8000000 in
set_option maxRecDepth 100000 in
theorem enc_3 (x : Rc) (iA : Option Addr) (ni ic : Nat) (nA : Option Addr) (nn nc : Nat) (w : World) (hk : x.k = 3) (hi' : Ims w iA ni x.l) (hx' : Rd w nA nn (x.xs.map (Value.int .i64))) (hr : rightB x = true) : Calls Try.prog 57 #[.agg (rcA x (.slice iA ni ic) (.slice nA nn nc))] w fun e w' => e = .returned (.tuple #[.string (str (encB x)), .int .i64 0]) ∧ Below w.heap.size w w' := by
  have HIL := Lib.hid hi'.len
  have HXL : Hid (x.xs.length = nn) := Lib.hid (by simpa using hx'.len)
  have HI := Lib.hid hi'
  have HX := Lib.hid hx'
  clear hi' hx'
  obtain ⟨g, hg⟩ : ∃ g, Hid (w.heap.size = g) := ⟨_, Lib.hid rfl⟩
  obtain ⟨W0, hW0⟩ : ∃ W0, Hid (w.alloc (.cells (rcA x (.slice iA ni ic) (.slice nA nn nc)) 89) = W0) := ⟨_, Lib.hid rfl⟩
  have hb0 : Hid (Below w.heap.size w W0) := Lib.hid (by rw [← hW0.out]; exact below_alloc _ _)
  have HG0 : Hid (RcAt g x (.slice iA ni ic) (.slice nA nn nc) W0) := Lib.hid (by rw [← hW0.out, ← hg.out]; exact rcAt_new _ _ _ _)
  have HC := Lib.hid (right_any x iA ni ic nA nn nc W0 (HI.out.below hb0.out) (HX.out.below hb0.out) true hr)
  obtain ⟨k, t1, t2, t3, l, xs, n1, n2, n3, n4, n5, n6, n7, n8, y⟩ := x
  dsimp only [rcA] at hW0
  dsimp only at hk HIL HXL HI HX
  subst hk
  obtain ⟨bs1, hbs1⟩ : ∃ z, Hid ([] ++ [(3 : UInt8)] = z) := ⟨_, Lib.hid rfl⟩
  have hn1' : bs1.length = 1 := by rw [← hbs1.out]; rfl
  obtain ⟨bs2, hbs2⟩ : ∃ z, Hid (bs1 ++ numsB [n4, n5, n6, n1, n7, n8] = z) := ⟨_, Lib.hid rfl⟩
  have hn2' : bs2.length ≤ 49 := by rw [← hbs2.out]; simp [len_nums, len_items, len_big]; omega
  have hl1 := Lib.hid (show bs1.length + ([n4, n5, n6, n1, n7, n8] : List Int).length * 8 ≤ 140737488355328 by simp; omega)
  have hle := Lib.hid (show bs2.length ≤ 9223372036854775807 by omega)
  have hfin : Hid (saysB bs2 false = str (encB ⟨3, t1, t2, t3, l, xs, n1, n2, n3, n4, n5, n6, n7, n8, y⟩)) := Lib.hid (by
    rw [← hbs2.out, ← hbs1.out]
    show str _ = str _
    congr 1
    unfold encB bodyB
    rw [show kB 3 = [3] by kernel_rfl]
    simp)
  clear hn1' hn2'
  clear hr
  obtain ⟨f0, f1, f2, f3, f4, f5, f6, f7, f8, f9, f10, f11, f12, f13, f14⟩ := rc_f HG0.out
  dsimp only at f0 f1 f2 f3 f4 f5 f6 f7 f8 f9 f10 f11 f12 f13 f14
  go_enter Try.func57, Try.ntmps57
  go_wp2_with fail
  rw [hW0.out, hg.out]
  refine HC.out.mono ?_
  rintro e w1 ⟨rfl, hb1⟩
  have HB := Lib.hid (below2 hb0.out hb1)
  have HG := Lib.hid (HG0.out.below hb1)
  have HI1 := Lib.hid (HI.out.below HB.out)
  have HX1 := Lib.hid (HX.out.below HB.out)
  clear hb1 HC HG0 f0 f1 f2 f3 f4 f5 f6 f7 f8 f9 f10 f11 f12 f13 f14
  obtain ⟨f0, f1, f2, f3, f4, f5, f6, f7, f8, f9, f10, f11, f12, f13, f14⟩ := rc_f HG.out
  dsimp only at f0 f1 f2 f3 f4 f5 f6 f7 f8 f9 f10 f11 f12 f13 f14
  have y0 := fun o => cell_below (below_alloc _ o) f0
  obtain ⟨b, hb⟩ : ∃ b, Hid (w1.heap.size = b) := ⟨_, Lib.hid rfl⟩
  have hw0 := wrs_new w1 65 (.inr rfl)
  obtain ⟨wB, hwB⟩ : ∃ wB, Hid (w1.alloc (.cells #[.pointer none, .slice none 0 0, .bool false] 65) = wB) := ⟨_, Lib.hid rfl⟩
  have hsB : Hid (wB.heap.size = b + 1) := Lib.hid (by rw [← hwB.out, ← hb.out]; simp)
  rw [hb.out, hwB.out] at hw0
  have H0 := Lib.hid hw0
  clear hw0
  go_wp2_with fail
  rw [hwB.out, hb.out]
  refine (enc_byte H0.out 3 _ hsB.out _ (by decide)).mono ?_
  rintro e w2 ⟨rfl, h2⟩
  rw [hbs1.out] at h2
  clear y0 f0 f1 f2 f3 f4 f5 f6 f7 f8 f9 f10 f11 f12 f13 f14
  obtain ⟨f0, f1, f2, f3, f4, f5, f6, f7, f8, f9, f10, f11, f12, f13, f14⟩ := rc_f (HG.out.below (Nw.below h2))
  dsimp only at f0 f1 f2 f3 f4 f5 f6 f7 f8 f9 f10 f11 f12 f13 f14
  have H1 := Lib.hid h2
  clear h2
  go_wp2_with fail
  refine (enc_nums H1.out [n4, n5, n6, n1, n7, n8] 6 rfl (by decide) _ rfl _ hl1.out).mono ?_
  rintro e w3 ⟨rfl, h2⟩
  rw [hbs2.out] at h2
  clear f0 f1 f2 f3 f4 f5 f6 f7 f8 f9 f10 f11 f12 f13 f14
  obtain ⟨f0, f1, f2, f3, f4, f5, f6, f7, f8, f9, f10, f11, f12, f13, f14⟩ := rc_f (HG.out.below (Nw.below h2))
  dsimp only at f0 f1 f2 f3 f4 f5 f6 f7 f8 f9 f10 f11 f12 f13 f14
  have H2 := Lib.hid h2
  clear h2
  go_wp2_with fail
  refine (enc_str H2.out _ hfin.out hle.out).mono ?_
  rintro e w9 ⟨rfl, h9⟩
  have H9 := Lib.hid (below2 HB.out h9)
  clear h9 f0 f1 f2 f3 f4 f5 f6 f7 f8 f9 f10 f11 f12 f13 f14
  go_wp2
  go_ret2
  exact ⟨rfl, H9.out⟩
set_option maxHeartbeats 8000000 in
set_option maxRecDepth 100000 in
theorem enc_12 (x : Rc) (iA : Option Addr) (ni ic : Nat) (nA : Option Addr) (nn nc : Nat) (w : World) (hk : x.k = 12) (hi' : Ims w iA ni x.l) (hx' : Rd w nA nn (x.xs.map (Value.int .i64))) (hr : rightB x = true) : Calls Try.prog 57 #[.agg (rcA x (.slice iA ni ic) (.slice nA nn nc))] w fun e w' => e = .returned (.tuple #[.string (str (encB x)), .int .i64 0]) ∧ Below w.heap.size w w' := by
  have HIL := Lib.hid hi'.len
  have HXL : Hid (x.xs.length = nn) := Lib.hid (by simpa using hx'.len)
  have HI := Lib.hid hi'
  have HX := Lib.hid hx'
  clear hi' hx'
  obtain ⟨g, hg⟩ : ∃ g, Hid (w.heap.size = g) := ⟨_, Lib.hid rfl⟩
  obtain ⟨W0, hW0⟩ : ∃ W0, Hid (w.alloc (.cells (rcA x (.slice iA ni ic) (.slice nA nn nc)) 89) = W0) := ⟨_, Lib.hid rfl⟩
  have hb0 : Hid (Below w.heap.size w W0) := Lib.hid (by rw [← hW0.out]; exact below_alloc _ _)
  have HG0 : Hid (RcAt g x (.slice iA ni ic) (.slice nA nn nc) W0) := Lib.hid (by rw [← hW0.out, ← hg.out]; exact rcAt_new _ _ _ _)
  have HC := Lib.hid (right_any x iA ni ic nA nn nc W0 (HI.out.below hb0.out) (HX.out.below hb0.out) true hr)
  obtain ⟨k, t1, t2, t3, l, xs, n1, n2, n3, n4, n5, n6, n7, n8, y⟩ := x
  dsimp only [rcA] at hW0
  dsimp only at hk HIL HXL HI HX
  subst hk
  obtain ⟨bs1, hbs1⟩ : ∃ z, Hid ([] ++ [(12 : UInt8)] = z) := ⟨_, Lib.hid rfl⟩
  have hn1' : bs1.length = 1 := by rw [← hbs1.out]; rfl
  have hle := Lib.hid (show bs1.length ≤ 9223372036854775807 by omega)
  have hfin : Hid (saysB bs1 false = str (encB ⟨12, t1, t2, t3, l, xs, n1, n2, n3, n4, n5, n6, n7, n8, y⟩)) := Lib.hid (by
    rw [← hbs1.out]
    show str _ = str _
    congr 1
    unfold encB bodyB
    rw [show kB 12 = [12] by kernel_rfl]
    simp)
  clear hn1'
  clear hr
  obtain ⟨f0, f1, f2, f3, f4, f5, f6, f7, f8, f9, f10, f11, f12, f13, f14⟩ := rc_f HG0.out
  dsimp only at f0 f1 f2 f3 f4 f5 f6 f7 f8 f9 f10 f11 f12 f13 f14
  go_enter Try.func57, Try.ntmps57
  go_wp2_with fail
  rw [hW0.out, hg.out]
  refine HC.out.mono ?_
  rintro e w1 ⟨rfl, hb1⟩
  have HB := Lib.hid (below2 hb0.out hb1)
  have HG := Lib.hid (HG0.out.below hb1)
  have HI1 := Lib.hid (HI.out.below HB.out)
  have HX1 := Lib.hid (HX.out.below HB.out)
  clear hb1 HC HG0 f0 f1 f2 f3 f4 f5 f6 f7 f8 f9 f10 f11 f12 f13 f14
  obtain ⟨f0, f1, f2, f3, f4, f5, f6, f7, f8, f9, f10, f11, f12, f13, f14⟩ := rc_f HG.out
  dsimp only at f0 f1 f2 f3 f4 f5 f6 f7 f8 f9 f10 f11 f12 f13 f14
  have y0 := fun o => cell_below (below_alloc _ o) f0
  obtain ⟨b, hb⟩ : ∃ b, Hid (w1.heap.size = b) := ⟨_, Lib.hid rfl⟩
  have hw0 := wrs_new w1 65 (.inr rfl)
  obtain ⟨wB, hwB⟩ : ∃ wB, Hid (w1.alloc (.cells #[.pointer none, .slice none 0 0, .bool false] 65) = wB) := ⟨_, Lib.hid rfl⟩
  have hsB : Hid (wB.heap.size = b + 1) := Lib.hid (by rw [← hwB.out, ← hb.out]; simp)
  rw [hb.out, hwB.out] at hw0
  have H0 := Lib.hid hw0
  clear hw0
  go_wp2_with fail
  rw [hwB.out, hb.out]
  refine (enc_byte H0.out 12 _ hsB.out _ (by decide)).mono ?_
  rintro e w2 ⟨rfl, h2⟩
  rw [hbs1.out] at h2
  clear y0 f0 f1 f2 f3 f4 f5 f6 f7 f8 f9 f10 f11 f12 f13 f14
  obtain ⟨f0, f1, f2, f3, f4, f5, f6, f7, f8, f9, f10, f11, f12, f13, f14⟩ := rc_f (HG.out.below (Nw.below h2))
  dsimp only at f0 f1 f2 f3 f4 f5 f6 f7 f8 f9 f10 f11 f12 f13 f14
  have H1 := Lib.hid h2
  clear h2
  go_wp2_with fail
  refine (enc_str H1.out _ hfin.out hle.out).mono ?_
  rintro e w9 ⟨rfl, h9⟩
  have H9 := Lib.hid (below2 HB.out h9)
  clear h9 f0 f1 f2 f3 f4 f5 f6 f7 f8 f9 f10 f11 f12 f13 f14
  go_wp2
  go_ret2
  exact ⟨rfl, H9.out⟩
end Go.Proofs.Ytfpocddpnoighaa.Rc

/- record: Encode, kind by kind. -/
namespace Go.Proofs.Ytfpocddpnoighaa.Rc
open Go.RowKit Go.Proofs.Ytfpocddpnoighaa.L Go.Proofs.Ytfpocddpnoighaa.O Go.Proofs.Ytfpocddpnoighaa.A Go.Proofs.Ytfpocddpnoighaa.R Go.Proofs.Ytfpocddpnoighaa.S Go.Proofs.Ytfpocddpnoighaa.T Go.Proofs.Ytfpocddpnoighaa.E Go.Proofs.Ytfpocddpnoighaa.F Go.Proofs.Ytfpocddpnoighaa.It
open Go.Proofs.Ytfpocddpnoighaa.Wr hiding str str_size str_list
set_option linter.unusedVariables false
set_option linter.unusedSimpArgs false

set_option maxHeartbeats 8000000 in
set_option maxRecDepth 100000 in
theorem enc_4 (x : Rc) (iA : Option Addr) (ni ic : Nat) (nA : Option Addr) (nn nc : Nat) (w : World) (hk : x.k = 4) (hi' : Ims w iA ni x.l) (hx' : Rd w nA nn (x.xs.map (Value.int .i64))) (hr : rightB x = true) : Calls Try.prog 57 #[.agg (rcA x (.slice iA ni ic) (.slice nA nn nc))] w fun e w' => e = .returned (.tuple #[.string (str (encB x)), .int .i64 0]) ∧ Below w.heap.size w w' := by
  have HIL := Lib.hid hi'.len
  have HXL : Hid (x.xs.length = nn) := Lib.hid (by simpa using hx'.len)
  have HI := Lib.hid hi'
  have HX := Lib.hid hx'
  clear hi' hx'
  obtain ⟨g, hg⟩ : ∃ g, Hid (w.heap.size = g) := ⟨_, Lib.hid rfl⟩
  obtain ⟨W0, hW0⟩ : ∃ W0, Hid (w.alloc (.cells (rcA x (.slice iA ni ic) (.slice nA nn nc)) 89) = W0) := ⟨_, Lib.hid rfl⟩
  have hb0 : Hid (Below w.heap.size w W0) := Lib.hid (by rw [← hW0.out]; exact below_alloc _ _)
  have HG0 : Hid (RcAt g x (.slice iA ni ic) (.slice nA nn nc) W0) := Lib.hid (by rw [← hW0.out, ← hg.out]; exact rcAt_new _ _ _ _)
  have HC := Lib.hid (right_any x iA ni ic nA nn nc W0 (HI.out.below hb0.out) (HX.out.below hb0.out) true hr)
  obtain ⟨k, t1, t2, t3, l, xs, n1, n2, n3, n4, n5, n6, n7, n8, y⟩ := x
  dsimp only [rcA] at hW0
  dsimp only at hk HIL HXL HI HX
  subst hk
  have hok : okB ⟨4, t1, t2, t3, l, xs, n1, n2, n3, n4, n5, n6, n7, n8, y⟩ = true := by have := hr; unfold rightB at this; rw [Bool.and_eq_true] at this; exact this.2
  simp [okB] at hok
  obtain ⟨h16, h17⟩ := lists_16 l xs (.inr hok.2.1) hok.2.2
  rw [HIL.out] at h16
  rw [HXL.out] at h17
  have hni := Lib.hid (show ni ≤ 65535 by omega)
  have hnn := Lib.hid (show nn ≤ 65535 by omega)
  clear hok
  obtain ⟨bs1, hbs1⟩ : ∃ z, Hid ([] ++ [(4 : UInt8)] = z) := ⟨_, Lib.hid rfl⟩
  have hn1' : bs1.length = 1 := by rw [← hbs1.out]; rfl
  obtain ⟨bs2, hbs2⟩ : ∃ z, Hid (bs1 ++ numsB [t1, t2, t3] = z) := ⟨_, Lib.hid rfl⟩
  have hn2' : bs2.length ≤ 25 := by rw [← hbs2.out]; simp [len_nums, len_items, len_big, HIL.out, HXL.out]; omega
  have hl1 := Lib.hid (show bs1.length + 24 ≤ 140737488355328 by omega)
  obtain ⟨bs3, hbs3⟩ : ∃ z, Hid (bs2 ++ (bigB ni 2 ++ itemsB l) = z) := ⟨_, Lib.hid rfl⟩
  have hn3' : bs3.length ≤ 625 := by rw [← hbs3.out]; simp [len_nums, len_items, len_big, HIL.out, HXL.out]; omega
  have hl2 := Lib.hid (show bs2.length + 2 + ni * 33 ≤ 140737488355328 by omega)
  obtain ⟨bs4, hbs4⟩ : ∃ z, Hid (bs3 ++ (bigB nn 2 ++ numsB xs) = z) := ⟨_, Lib.hid rfl⟩
  have hn4' : bs4.length ≤ 825 := by rw [← hbs4.out]; simp [len_nums, len_items, len_big, HIL.out, HXL.out]; omega
  have hl3 := Lib.hid (show bs3.length + 2 + nn * 8 ≤ 140737488355328 by omega)
  have hle := Lib.hid (show bs4.length ≤ 9223372036854775807 by omega)
  have hfin : Hid (saysB bs4 false = str (encB ⟨4, t1, t2, t3, l, xs, n1, n2, n3, n4, n5, n6, n7, n8, y⟩)) := Lib.hid (by
    rw [← hbs4.out, ← hbs3.out, ← hbs2.out, ← hbs1.out]
    show str _ = str _
    congr 1
    unfold encB bodyB
    rw [show kB 4 = [4] by kernel_rfl]
    simp [HIL.out, HXL.out])
  clear hn1' hn2' hn3' hn4'
  clear h16 h17
  clear hr
  obtain ⟨f0, f1, f2, f3, f4, f5, f6, f7, f8, f9, f10, f11, f12, f13, f14⟩ := rc_f HG0.out
  dsimp only at f0 f1 f2 f3 f4 f5 f6 f7 f8 f9 f10 f11 f12 f13 f14
  go_enter Try.func57, Try.ntmps57
  go_wp2_with fail
  rw [hW0.out, hg.out]
  refine HC.out.mono ?_
  rintro e w1 ⟨rfl, hb1⟩
  have HB := Lib.hid (below2 hb0.out hb1)
  have HG := Lib.hid (HG0.out.below hb1)
  have HI1 := Lib.hid (HI.out.below HB.out)
  have HX1 := Lib.hid (HX.out.below HB.out)
  clear hb1 HC HG0 f0 f1 f2 f3 f4 f5 f6 f7 f8 f9 f10 f11 f12 f13 f14
  obtain ⟨f0, f1, f2, f3, f4, f5, f6, f7, f8, f9, f10, f11, f12, f13, f14⟩ := rc_f HG.out
  dsimp only at f0 f1 f2 f3 f4 f5 f6 f7 f8 f9 f10 f11 f12 f13 f14
  have y0 := fun o => cell_below (below_alloc _ o) f0
  obtain ⟨b, hb⟩ : ∃ b, Hid (w1.heap.size = b) := ⟨_, Lib.hid rfl⟩
  have hw0 := wrs_new w1 65 (.inr rfl)
  obtain ⟨wB, hwB⟩ : ∃ wB, Hid (w1.alloc (.cells #[.pointer none, .slice none 0 0, .bool false] 65) = wB) := ⟨_, Lib.hid rfl⟩
  have hsB : Hid (wB.heap.size = b + 1) := Lib.hid (by rw [← hwB.out, ← hb.out]; simp)
  rw [hb.out, hwB.out] at hw0
  have H0 := Lib.hid hw0
  clear hw0
  go_wp2_with fail
  rw [hwB.out, hb.out]
  refine (enc_byte H0.out 4 _ hsB.out _ (by decide)).mono ?_
  rintro e w2 ⟨rfl, h2⟩
  rw [hbs1.out] at h2
  clear y0 f0 f1 f2 f3 f4 f5 f6 f7 f8 f9 f10 f11 f12 f13 f14
  obtain ⟨f0, f1, f2, f3, f4, f5, f6, f7, f8, f9, f10, f11, f12, f13, f14⟩ := rc_f (HG.out.below (Nw.below h2))
  dsimp only at f0 f1 f2 f3 f4 f5 f6 f7 f8 f9 f10 f11 f12 f13 f14
  have H1 := Lib.hid h2
  clear h2
  go_wp2_with fail
  refine (enc_tid H1.out t1 t2 t3 hl1.out).mono ?_
  rintro e w3 ⟨rfl, h2⟩
  rw [hbs2.out] at h2
  clear f0 f1 f2 f3 f4 f5 f6 f7 f8 f9 f10 f11 f12 f13 f14
  obtain ⟨f0, f1, f2, f3, f4, f5, f6, f7, f8, f9, f10, f11, f12, f13, f14⟩ := rc_f (HG.out.below (Nw.below h2))
  dsimp only at f0 f1 f2 f3 f4 f5 f6 f7 f8 f9 f10 f11 f12 f13 f14
  have H2 := Lib.hid h2
  clear h2
  go_wp2_with fail
  refine (enc_items H2.out l iA ni ic HI1.out hni.out hl2.out).mono ?_
  rintro e w4 ⟨rfl, h2⟩
  rw [hbs3.out] at h2
  clear f0 f1 f2 f3 f4 f5 f6 f7 f8 f9 f10 f11 f12 f13 f14
  obtain ⟨f0, f1, f2, f3, f4, f5, f6, f7, f8, f9, f10, f11, f12, f13, f14⟩ := rc_f (HG.out.below (Nw.below h2))
  dsimp only at f0 f1 f2 f3 f4 f5 f6 f7 f8 f9 f10 f11 f12 f13 f14
  have H3 := Lib.hid h2
  clear h2
  go_wp2_with fail
  refine (enc_nodes H3.out xs nA nn nc HX1.out hnn.out hl3.out).mono ?_
  rintro e w5 ⟨rfl, h2⟩
  rw [hbs4.out] at h2
  clear f0 f1 f2 f3 f4 f5 f6 f7 f8 f9 f10 f11 f12 f13 f14
  obtain ⟨f0, f1, f2, f3, f4, f5, f6, f7, f8, f9, f10, f11, f12, f13, f14⟩ := rc_f (HG.out.below (Nw.below h2))
  dsimp only at f0 f1 f2 f3 f4 f5 f6 f7 f8 f9 f10 f11 f12 f13 f14
  have H4 := Lib.hid h2
  clear h2
  go_wp2_with fail
  refine (enc_str H4.out _ hfin.out hle.out).mono ?_
  rintro e w9 ⟨rfl, h9⟩
  have H9 := Lib.hid (below2 HB.out h9)
  clear h9 f0 f1 f2 f3 f4 f5 f6 f7 f8 f9 f10 f11 f12 f13 f14
  go_wp2
  go_ret2
  exact ⟨rfl, H9.out⟩
set_option maxHeartbeats 8000000 in
set_option maxRecDepth 100000 in
theorem enc_8 (x : Rc) (iA : Option Addr) (ni ic : Nat) (nA : Option Addr) (nn nc : Nat) (w : World) (hk : x.k = 8) (hi' : Ims w iA ni x.l) (hx' : Rd w nA nn (x.xs.map (Value.int .i64))) (hr : rightB x = true) : Calls Try.prog 57 #[.agg (rcA x (.slice iA ni ic) (.slice nA nn nc))] w fun e w' => e = .returned (.tuple #[.string (str (encB x)), .int .i64 0]) ∧ Below w.heap.size w w' := by
  have HIL := Lib.hid hi'.len
  have HXL : Hid (x.xs.length = nn) := Lib.hid (by simpa using hx'.len)
  have HI := Lib.hid hi'
  have HX := Lib.hid hx'
  clear hi' hx'
  obtain ⟨g, hg⟩ : ∃ g, Hid (w.heap.size = g) := ⟨_, Lib.hid rfl⟩
  obtain ⟨W0, hW0⟩ : ∃ W0, Hid (w.alloc (.cells (rcA x (.slice iA ni ic) (.slice nA nn nc)) 89) = W0) := ⟨_, Lib.hid rfl⟩
  have hb0 : Hid (Below w.heap.size w W0) := Lib.hid (by rw [← hW0.out]; exact below_alloc _ _)
  have HG0 : Hid (RcAt g x (.slice iA ni ic) (.slice nA nn nc) W0) := Lib.hid (by rw [← hW0.out, ← hg.out]; exact rcAt_new _ _ _ _)
  have HC := Lib.hid (right_any x iA ni ic nA nn nc W0 (HI.out.below hb0.out) (HX.out.below hb0.out) true hr)
  obtain ⟨k, t1, t2, t3, l, xs, n1, n2, n3, n4, n5, n6, n7, n8, y⟩ := x
  dsimp only [rcA] at hW0
  dsimp only at hk HIL HXL HI HX
  subst hk
  obtain ⟨bs1, hbs1⟩ : ∃ z, Hid ([] ++ [(8 : UInt8)] = z) := ⟨_, Lib.hid rfl⟩
  have hn1' : bs1.length = 1 := by rw [← hbs1.out]; rfl
  obtain ⟨bs2, hbs2⟩ : ∃ z, Hid (bs1 ++ numsB [n4, n6, n1] = z) := ⟨_, Lib.hid rfl⟩
  have hn2' : bs2.length ≤ 25 := by rw [← hbs2.out]; simp [len_nums, len_items, len_big]; omega
  have hl1 := Lib.hid (show bs1.length + ([n4, n6, n1] : List Int).length * 8 ≤ 140737488355328 by simp; omega)
  have hle := Lib.hid (show bs2.length ≤ 9223372036854775807 by omega)
  have hfin : Hid (saysB bs2 false = str (encB ⟨8, t1, t2, t3, l, xs, n1, n2, n3, n4, n5, n6, n7, n8, y⟩)) := Lib.hid (by
    rw [← hbs2.out, ← hbs1.out]
    show str _ = str _
    congr 1
    unfold encB bodyB
    rw [show kB 8 = [8] by kernel_rfl]
    simp)
  clear hn1' hn2'
  clear hr
  obtain ⟨f0, f1, f2, f3, f4, f5, f6, f7, f8, f9, f10, f11, f12, f13, f14⟩ := rc_f HG0.out
  dsimp only at f0 f1 f2 f3 f4 f5 f6 f7 f8 f9 f10 f11 f12 f13 f14
  go_enter Try.func57, Try.ntmps57
  go_wp2_with fail
  rw [hW0.out, hg.out]
  refine HC.out.mono ?_
  rintro e w1 ⟨rfl, hb1⟩
  have HB := Lib.hid (below2 hb0.out hb1)
  have HG := Lib.hid (HG0.out.below hb1)
  have HI1 := Lib.hid (HI.out.below HB.out)
  have HX1 := Lib.hid (HX.out.below HB.out)
  clear hb1 HC HG0 f0 f1 f2 f3 f4 f5 f6 f7 f8 f9 f10 f11 f12 f13 f14
  obtain ⟨f0, f1, f2, f3, f4, f5, f6, f7, f8, f9, f10, f11, f12, f13, f14⟩ := rc_f HG.out
  dsimp only at f0 f1 f2 f3 f4 f5 f6 f7 f8 f9 f10 f11 f12 f13 f14
  have y0 := fun o => cell_below (below_alloc _ o) f0
  obtain ⟨b, hb⟩ : ∃ b, Hid (w1.heap.size = b) := ⟨_, Lib.hid rfl⟩
  have hw0 := wrs_new w1 65 (.inr rfl)
  obtain ⟨wB, hwB⟩ : ∃ wB, Hid (w1.alloc (.cells #[.pointer none, .slice none 0 0, .bool false] 65) = wB) := ⟨_, Lib.hid rfl⟩
  have hsB : Hid (wB.heap.size = b + 1) := Lib.hid (by rw [← hwB.out, ← hb.out]; simp)
  rw [hb.out, hwB.out] at hw0
  have H0 := Lib.hid hw0
  clear hw0
  go_wp2_with fail
  rw [hwB.out, hb.out]
  refine (enc_byte H0.out 8 _ hsB.out _ (by decide)).mono ?_
  rintro e w2 ⟨rfl, h2⟩
  rw [hbs1.out] at h2
  clear y0 f0 f1 f2 f3 f4 f5 f6 f7 f8 f9 f10 f11 f12 f13 f14
  obtain ⟨f0, f1, f2, f3, f4, f5, f6, f7, f8, f9, f10, f11, f12, f13, f14⟩ := rc_f (HG.out.below (Nw.below h2))
  dsimp only at f0 f1 f2 f3 f4 f5 f6 f7 f8 f9 f10 f11 f12 f13 f14
  have H1 := Lib.hid h2
  clear h2
  go_wp2_with fail
  refine (enc_nums H1.out [n4, n6, n1] 3 rfl (by decide) _ rfl _ hl1.out).mono ?_
  rintro e w3 ⟨rfl, h2⟩
  rw [hbs2.out] at h2
  clear f0 f1 f2 f3 f4 f5 f6 f7 f8 f9 f10 f11 f12 f13 f14
  obtain ⟨f0, f1, f2, f3, f4, f5, f6, f7, f8, f9, f10, f11, f12, f13, f14⟩ := rc_f (HG.out.below (Nw.below h2))
  dsimp only at f0 f1 f2 f3 f4 f5 f6 f7 f8 f9 f10 f11 f12 f13 f14
  have H2 := Lib.hid h2
  clear h2
  go_wp2_with fail
  refine (enc_str H2.out _ hfin.out hle.out).mono ?_
  rintro e w9 ⟨rfl, h9⟩
  have H9 := Lib.hid (below2 HB.out h9)
  clear h9 f0 f1 f2 f3 f4 f5 f6 f7 f8 f9 f10 f11 f12 f13 f14
  go_wp2
  go_ret2
  exact ⟨rfl, H9.out⟩
end Go.Proofs.Ytfpocddpnoighaa.Rc

/- record: Encode, kind by kind. -/
namespace Go.Proofs.Ytfpocddpnoighaa.Rc
open Go.RowKit Go.Proofs.Ytfpocddpnoighaa.L Go.Proofs.Ytfpocddpnoighaa.O Go.Proofs.Ytfpocddpnoighaa.A Go.Proofs.Ytfpocddpnoighaa.R Go.Proofs.Ytfpocddpnoighaa.S Go.Proofs.Ytfpocddpnoighaa.T Go.Proofs.Ytfpocddpnoighaa.E Go.Proofs.Ytfpocddpnoighaa.F Go.Proofs.Ytfpocddpnoighaa.It
open Go.Proofs.Ytfpocddpnoighaa.Wr hiding str str_size str_list
set_option linter.unusedVariables false
set_option linter.unusedSimpArgs false

set_option maxHeartbeats 8000000 in
set_option maxRecDepth 100000 in
theorem enc_5 (x : Rc) (iA : Option Addr) (ni ic : Nat) (nA : Option Addr) (nn nc : Nat) (w : World) (hk : x.k = 5) (hi' : Ims w iA ni x.l) (hx' : Rd w nA nn (x.xs.map (Value.int .i64))) (hr : rightB x = true) : Calls Try.prog 57 #[.agg (rcA x (.slice iA ni ic) (.slice nA nn nc))] w fun e w' => e = .returned (.tuple #[.string (str (encB x)), .int .i64 0]) ∧ Below w.heap.size w w' := by
  have HIL := Lib.hid hi'.len
  have HXL : Hid (x.xs.length = nn) := Lib.hid (by simpa using hx'.len)
  have HI := Lib.hid hi'
  have HX := Lib.hid hx'
  clear hi' hx'
  obtain ⟨g, hg⟩ : ∃ g, Hid (w.heap.size = g) := ⟨_, Lib.hid rfl⟩
  obtain ⟨W0, hW0⟩ : ∃ W0, Hid (w.alloc (.cells (rcA x (.slice iA ni ic) (.slice nA nn nc)) 89) = W0) := ⟨_, Lib.hid rfl⟩
  have hb0 : Hid (Below w.heap.size w W0) := Lib.hid (by rw [← hW0.out]; exact below_alloc _ _)
  have HG0 : Hid (RcAt g x (.slice iA ni ic) (.slice nA nn nc) W0) := Lib.hid (by rw [← hW0.out, ← hg.out]; exact rcAt_new _ _ _ _)
  have HC := Lib.hid (right_any x iA ni ic nA nn nc W0 (HI.out.below hb0.out) (HX.out.below hb0.out) true hr)
  obtain ⟨k, t1, t2, t3, l, xs, n1, n2, n3, n4, n5, n6, n7, n8, y⟩ := x
  dsimp only [rcA] at hW0
  dsimp only at hk HIL HXL HI HX
  subst hk
  have hok : okB ⟨5, t1, t2, t3, l, xs, n1, n2, n3, n4, n5, n6, n7, n8, y⟩ = true := by have := hr; unfold rightB at this; rw [Bool.and_eq_true] at this; exact this.2
  simp [okB] at hok
  obtain ⟨h16, h17⟩ := lists_16 l xs (hok.2.1) hok.2.2
  rw [HIL.out] at h16
  rw [HXL.out] at h17
  have hni := Lib.hid (show ni ≤ 65535 by omega)
  have hnn := Lib.hid (show nn ≤ 65535 by omega)
  clear hok
  obtain ⟨bs1, hbs1⟩ : ∃ z, Hid ([] ++ [(5 : UInt8)] = z) := ⟨_, Lib.hid rfl⟩
  have hn1' : bs1.length = 1 := by rw [← hbs1.out]; rfl
  obtain ⟨bs2, hbs2⟩ : ∃ z, Hid (bs1 ++ numsB [t1, t2, t3] = z) := ⟨_, Lib.hid rfl⟩
  have hn2' : bs2.length ≤ 25 := by rw [← hbs2.out]; simp [len_nums, len_items, len_big, HIL.out, HXL.out]; omega
  have hl1 := Lib.hid (show bs1.length + 24 ≤ 140737488355328 by omega)
  obtain ⟨bs3, hbs3⟩ : ∃ z, Hid (bs2 ++ (bigB ni 2 ++ itemsB l) = z) := ⟨_, Lib.hid rfl⟩
  have hn3' : bs3.length ≤ 625 := by rw [← hbs3.out]; simp [len_nums, len_items, len_big, HIL.out, HXL.out]; omega
  have hl2 := Lib.hid (show bs2.length + 2 + ni * 33 ≤ 140737488355328 by omega)
  obtain ⟨bs4, hbs4⟩ : ∃ z, Hid (bs3 ++ (bigB nn 2 ++ numsB xs) = z) := ⟨_, Lib.hid rfl⟩
  have hn4' : bs4.length ≤ 825 := by rw [← hbs4.out]; simp [len_nums, len_items, len_big, HIL.out, HXL.out]; omega
  have hl3 := Lib.hid (show bs3.length + 2 + nn * 8 ≤ 140737488355328 by omega)
  have hle := Lib.hid (show bs4.length ≤ 9223372036854775807 by omega)
  have hfin : Hid (saysB bs4 false = str (encB ⟨5, t1, t2, t3, l, xs, n1, n2, n3, n4, n5, n6, n7, n8, y⟩)) := Lib.hid (by
    rw [← hbs4.out, ← hbs3.out, ← hbs2.out, ← hbs1.out]
    show str _ = str _
    congr 1
    unfold encB bodyB
    rw [show kB 5 = [5] by kernel_rfl]
    simp [HIL.out, HXL.out])
  clear hn1' hn2' hn3' hn4'
  clear h16 h17
  clear hr
  obtain ⟨f0, f1, f2, f3, f4, f5, f6, f7, f8, f9, f10, f11, f12, f13, f14⟩ := rc_f HG0.out
  dsimp only at f0 f1 f2 f3 f4 f5 f6 f7 f8 f9 f10 f11 f12 f13 f14
  go_enter Try.func57, Try.ntmps57
  go_wp2_with fail
  rw [hW0.out, hg.out]
  refine HC.out.mono ?_
  rintro e w1 ⟨rfl, hb1⟩
  have HB := Lib.hid (below2 hb0.out hb1)
  have HG := Lib.hid (HG0.out.below hb1)
  have HI1 := Lib.hid (HI.out.below HB.out)
  have HX1 := Lib.hid (HX.out.below HB.out)
  clear hb1 HC HG0 f0 f1 f2 f3 f4 f5 f6 f7 f8 f9 f10 f11 f12 f13 f14
  obtain ⟨f0, f1, f2, f3, f4, f5, f6, f7, f8, f9, f10, f11, f12, f13, f14⟩ := rc_f HG.out
  dsimp only at f0 f1 f2 f3 f4 f5 f6 f7 f8 f9 f10 f11 f12 f13 f14
  have y0 := fun o => cell_below (below_alloc _ o) f0
  obtain ⟨b, hb⟩ : ∃ b, Hid (w1.heap.size = b) := ⟨_, Lib.hid rfl⟩
  have hw0 := wrs_new w1 65 (.inr rfl)
  obtain ⟨wB, hwB⟩ : ∃ wB, Hid (w1.alloc (.cells #[.pointer none, .slice none 0 0, .bool false] 65) = wB) := ⟨_, Lib.hid rfl⟩
  have hsB : Hid (wB.heap.size = b + 1) := Lib.hid (by rw [← hwB.out, ← hb.out]; simp)
  rw [hb.out, hwB.out] at hw0
  have H0 := Lib.hid hw0
  clear hw0
  go_wp2_with fail
  rw [hwB.out, hb.out]
  refine (enc_byte H0.out 5 _ hsB.out _ (by decide)).mono ?_
  rintro e w2 ⟨rfl, h2⟩
  rw [hbs1.out] at h2
  clear y0 f0 f1 f2 f3 f4 f5 f6 f7 f8 f9 f10 f11 f12 f13 f14
  obtain ⟨f0, f1, f2, f3, f4, f5, f6, f7, f8, f9, f10, f11, f12, f13, f14⟩ := rc_f (HG.out.below (Nw.below h2))
  dsimp only at f0 f1 f2 f3 f4 f5 f6 f7 f8 f9 f10 f11 f12 f13 f14
  have H1 := Lib.hid h2
  clear h2
  go_wp2_with fail
  refine (enc_tid H1.out t1 t2 t3 hl1.out).mono ?_
  rintro e w3 ⟨rfl, h2⟩
  rw [hbs2.out] at h2
  clear f0 f1 f2 f3 f4 f5 f6 f7 f8 f9 f10 f11 f12 f13 f14
  obtain ⟨f0, f1, f2, f3, f4, f5, f6, f7, f8, f9, f10, f11, f12, f13, f14⟩ := rc_f (HG.out.below (Nw.below h2))
  dsimp only at f0 f1 f2 f3 f4 f5 f6 f7 f8 f9 f10 f11 f12 f13 f14
  have H2 := Lib.hid h2
  clear h2
  go_wp2_with fail
  refine (enc_items H2.out l iA ni ic HI1.out hni.out hl2.out).mono ?_
  rintro e w4 ⟨rfl, h2⟩
  rw [hbs3.out] at h2
  clear f0 f1 f2 f3 f4 f5 f6 f7 f8 f9 f10 f11 f12 f13 f14
  obtain ⟨f0, f1, f2, f3, f4, f5, f6, f7, f8, f9, f10, f11, f12, f13, f14⟩ := rc_f (HG.out.below (Nw.below h2))
  dsimp only at f0 f1 f2 f3 f4 f5 f6 f7 f8 f9 f10 f11 f12 f13 f14
  have H3 := Lib.hid h2
  clear h2
  go_wp2_with fail
  refine (enc_nodes H3.out xs nA nn nc HX1.out hnn.out hl3.out).mono ?_
  rintro e w5 ⟨rfl, h2⟩
  rw [hbs4.out] at h2
  clear f0 f1 f2 f3 f4 f5 f6 f7 f8 f9 f10 f11 f12 f13 f14
  obtain ⟨f0, f1, f2, f3, f4, f5, f6, f7, f8, f9, f10, f11, f12, f13, f14⟩ := rc_f (HG.out.below (Nw.below h2))
  dsimp only at f0 f1 f2 f3 f4 f5 f6 f7 f8 f9 f10 f11 f12 f13 f14
  have H4 := Lib.hid h2
  clear h2
  go_wp2_with fail
  refine (enc_str H4.out _ hfin.out hle.out).mono ?_
  rintro e w9 ⟨rfl, h9⟩
  have H9 := Lib.hid (below2 HB.out h9)
  clear h9 f0 f1 f2 f3 f4 f5 f6 f7 f8 f9 f10 f11 f12 f13 f14
  go_wp2
  go_ret2
  exact ⟨rfl, H9.out⟩
set_option maxHeartbeats 8000000 in
set_option maxRecDepth 100000 in
theorem enc_9 (x : Rc) (iA : Option Addr) (ni ic : Nat) (nA : Option Addr) (nn nc : Nat) (w : World) (hk : x.k = 9) (hi' : Ims w iA ni x.l) (hx' : Rd w nA nn (x.xs.map (Value.int .i64))) (hr : rightB x = true) : Calls Try.prog 57 #[.agg (rcA x (.slice iA ni ic) (.slice nA nn nc))] w fun e w' => e = .returned (.tuple #[.string (str (encB x)), .int .i64 0]) ∧ Below w.heap.size w w' := by
  have HIL := Lib.hid hi'.len
  have HXL : Hid (x.xs.length = nn) := Lib.hid (by simpa using hx'.len)
  have HI := Lib.hid hi'
  have HX := Lib.hid hx'
  clear hi' hx'
  obtain ⟨g, hg⟩ : ∃ g, Hid (w.heap.size = g) := ⟨_, Lib.hid rfl⟩
  obtain ⟨W0, hW0⟩ : ∃ W0, Hid (w.alloc (.cells (rcA x (.slice iA ni ic) (.slice nA nn nc)) 89) = W0) := ⟨_, Lib.hid rfl⟩
  have hb0 : Hid (Below w.heap.size w W0) := Lib.hid (by rw [← hW0.out]; exact below_alloc _ _)
  have HG0 : Hid (RcAt g x (.slice iA ni ic) (.slice nA nn nc) W0) := Lib.hid (by rw [← hW0.out, ← hg.out]; exact rcAt_new _ _ _ _)
  have HC := Lib.hid (right_any x iA ni ic nA nn nc W0 (HI.out.below hb0.out) (HX.out.below hb0.out) true hr)
  obtain ⟨k, t1, t2, t3, l, xs, n1, n2, n3, n4, n5, n6, n7, n8, y⟩ := x
  dsimp only [rcA] at hW0
  dsimp only at hk HIL HXL HI HX
  subst hk
  obtain ⟨bs1, hbs1⟩ : ∃ z, Hid ([] ++ [(9 : UInt8)] = z) := ⟨_, Lib.hid rfl⟩
  have hn1' : bs1.length = 1 := by rw [← hbs1.out]; rfl
  obtain ⟨bs2, hbs2⟩ : ∃ z, Hid (bs1 ++ numsB [n4, n6, n7, n8] = z) := ⟨_, Lib.hid rfl⟩
  have hn2' : bs2.length ≤ 33 := by rw [← hbs2.out]; simp [len_nums, len_items, len_big]; omega
  have hl1 := Lib.hid (show bs1.length + ([n4, n6, n7, n8] : List Int).length * 8 ≤ 140737488355328 by simp; omega)
  have hle := Lib.hid (show bs2.length ≤ 9223372036854775807 by omega)
  have hfin : Hid (saysB bs2 false = str (encB ⟨9, t1, t2, t3, l, xs, n1, n2, n3, n4, n5, n6, n7, n8, y⟩)) := Lib.hid (by
    rw [← hbs2.out, ← hbs1.out]
    show str _ = str _
    congr 1
    unfold encB bodyB
    rw [show kB 9 = [9] by kernel_rfl]
    simp)
  clear hn1' hn2'
  clear hr
  obtain ⟨f0, f1, f2, f3, f4, f5, f6, f7, f8, f9, f10, f11, f12, f13, f14⟩ := rc_f HG0.out
  dsimp only at f0 f1 f2 f3 f4 f5 f6 f7 f8 f9 f10 f11 f12 f13 f14
  go_enter Try.func57, Try.ntmps57
  go_wp2_with fail
  rw [hW0.out, hg.out]
  refine HC.out.mono ?_
  rintro e w1 ⟨rfl, hb1⟩
  have HB := Lib.hid (below2 hb0.out hb1)
  have HG := Lib.hid (HG0.out.below hb1)
  have HI1 := Lib.hid (HI.out.below HB.out)
  have HX1 := Lib.hid (HX.out.below HB.out)
  clear hb1 HC HG0 f0 f1 f2 f3 f4 f5 f6 f7 f8 f9 f10 f11 f12 f13 f14
  obtain ⟨f0, f1, f2, f3, f4, f5, f6, f7, f8, f9, f10, f11, f12, f13, f14⟩ := rc_f HG.out
  dsimp only at f0 f1 f2 f3 f4 f5 f6 f7 f8 f9 f10 f11 f12 f13 f14
  have y0 := fun o => cell_below (below_alloc _ o) f0
  obtain ⟨b, hb⟩ : ∃ b, Hid (w1.heap.size = b) := ⟨_, Lib.hid rfl⟩
  have hw0 := wrs_new w1 65 (.inr rfl)
  obtain ⟨wB, hwB⟩ : ∃ wB, Hid (w1.alloc (.cells #[.pointer none, .slice none 0 0, .bool false] 65) = wB) := ⟨_, Lib.hid rfl⟩
  have hsB : Hid (wB.heap.size = b + 1) := Lib.hid (by rw [← hwB.out, ← hb.out]; simp)
  rw [hb.out, hwB.out] at hw0
  have H0 := Lib.hid hw0
  clear hw0
  go_wp2_with fail
  rw [hwB.out, hb.out]
  refine (enc_byte H0.out 9 _ hsB.out _ (by decide)).mono ?_
  rintro e w2 ⟨rfl, h2⟩
  rw [hbs1.out] at h2
  clear y0 f0 f1 f2 f3 f4 f5 f6 f7 f8 f9 f10 f11 f12 f13 f14
  obtain ⟨f0, f1, f2, f3, f4, f5, f6, f7, f8, f9, f10, f11, f12, f13, f14⟩ := rc_f (HG.out.below (Nw.below h2))
  dsimp only at f0 f1 f2 f3 f4 f5 f6 f7 f8 f9 f10 f11 f12 f13 f14
  have H1 := Lib.hid h2
  clear h2
  go_wp2_with fail
  refine (enc_nums H1.out [n4, n6, n7, n8] 4 rfl (by decide) _ rfl _ hl1.out).mono ?_
  rintro e w3 ⟨rfl, h2⟩
  rw [hbs2.out] at h2
  clear f0 f1 f2 f3 f4 f5 f6 f7 f8 f9 f10 f11 f12 f13 f14
  obtain ⟨f0, f1, f2, f3, f4, f5, f6, f7, f8, f9, f10, f11, f12, f13, f14⟩ := rc_f (HG.out.below (Nw.below h2))
  dsimp only at f0 f1 f2 f3 f4 f5 f6 f7 f8 f9 f10 f11 f12 f13 f14
  have H2 := Lib.hid h2
  clear h2
  go_wp2_with fail
  refine (enc_str H2.out _ hfin.out hle.out).mono ?_
  rintro e w9 ⟨rfl, h9⟩
  have H9 := Lib.hid (below2 HB.out h9)
  clear h9 f0 f1 f2 f3 f4 f5 f6 f7 f8 f9 f10 f11 f12 f13 f14
  go_wp2
  go_ret2
  exact ⟨rfl, H9.out⟩
set_option maxHeartbeats 8000000 in
set_option maxRecDepth 100000 in
theorem enc_7 (x : Rc) (iA : Option Addr) (ni ic : Nat) (nA : Option Addr) (nn nc : Nat) (w : World) (hk : x.k = 7) (hi' : Ims w iA ni x.l) (hx' : Rd w nA nn (x.xs.map (Value.int .i64))) (hr : rightB x = true) : Calls Try.prog 57 #[.agg (rcA x (.slice iA ni ic) (.slice nA nn nc))] w fun e w' => e = .returned (.tuple #[.string (str (encB x)), .int .i64 0]) ∧ Below w.heap.size w w' := by
  have HIL := Lib.hid hi'.len
  have HXL : Hid (x.xs.length = nn) := Lib.hid (by simpa using hx'.len)
  have HI := Lib.hid hi'
  have HX := Lib.hid hx'
  clear hi' hx'
  obtain ⟨g, hg⟩ : ∃ g, Hid (w.heap.size = g) := ⟨_, Lib.hid rfl⟩
  obtain ⟨W0, hW0⟩ : ∃ W0, Hid (w.alloc (.cells (rcA x (.slice iA ni ic) (.slice nA nn nc)) 89) = W0) := ⟨_, Lib.hid rfl⟩
  have hb0 : Hid (Below w.heap.size w W0) := Lib.hid (by rw [← hW0.out]; exact below_alloc _ _)
  have HG0 : Hid (RcAt g x (.slice iA ni ic) (.slice nA nn nc) W0) := Lib.hid (by rw [← hW0.out, ← hg.out]; exact rcAt_new _ _ _ _)
  have HC := Lib.hid (right_any x iA ni ic nA nn nc W0 (HI.out.below hb0.out) (HX.out.below hb0.out) true hr)
  obtain ⟨k, t1, t2, t3, l, xs, n1, n2, n3, n4, n5, n6, n7, n8, y⟩ := x
  dsimp only [rcA] at hW0
  dsimp only at hk HIL HXL HI HX
  subst hk
  obtain ⟨bs1, hbs1⟩ : ∃ z, Hid ([] ++ [(7 : UInt8)] = z) := ⟨_, Lib.hid rfl⟩
  have hn1' : bs1.length = 1 := by rw [← hbs1.out]; rfl
  obtain ⟨bs2, hbs2⟩ : ∃ z, Hid (bs1 ++ numsB [t1, t2, t3] = z) := ⟨_, Lib.hid rfl⟩
  have hn2' : bs2.length ≤ 25 := by rw [← hbs2.out]; simp [len_nums, len_items, len_big]; omega
  have hl1 := Lib.hid (show bs1.length + 24 ≤ 140737488355328 by omega)
  have hle := Lib.hid (show bs2.length ≤ 9223372036854775807 by omega)
  have hfin : Hid (saysB bs2 false = str (encB ⟨7, t1, t2, t3, l, xs, n1, n2, n3, n4, n5, n6, n7, n8, y⟩)) := Lib.hid (by
    rw [← hbs2.out, ← hbs1.out]
    show str _ = str _
    congr 1
    unfold encB bodyB
    rw [show kB 7 = [7] by kernel_rfl]
    simp)
  clear hn1' hn2'
  clear hr
  obtain ⟨f0, f1, f2, f3, f4, f5, f6, f7, f8, f9, f10, f11, f12, f13, f14⟩ := rc_f HG0.out
  dsimp only at f0 f1 f2 f3 f4 f5 f6 f7 f8 f9 f10 f11 f12 f13 f14
  go_enter Try.func57, Try.ntmps57
  go_wp2_with fail
  rw [hW0.out, hg.out]
  refine HC.out.mono ?_
  rintro e w1 ⟨rfl, hb1⟩
  have HB := Lib.hid (below2 hb0.out hb1)
  have HG := Lib.hid (HG0.out.below hb1)
  have HI1 := Lib.hid (HI.out.below HB.out)
  have HX1 := Lib.hid (HX.out.below HB.out)
  clear hb1 HC HG0 f0 f1 f2 f3 f4 f5 f6 f7 f8 f9 f10 f11 f12 f13 f14
  obtain ⟨f0, f1, f2, f3, f4, f5, f6, f7, f8, f9, f10, f11, f12, f13, f14⟩ := rc_f HG.out
  dsimp only at f0 f1 f2 f3 f4 f5 f6 f7 f8 f9 f10 f11 f12 f13 f14
  have y0 := fun o => cell_below (below_alloc _ o) f0
  obtain ⟨b, hb⟩ : ∃ b, Hid (w1.heap.size = b) := ⟨_, Lib.hid rfl⟩
  have hw0 := wrs_new w1 65 (.inr rfl)
  obtain ⟨wB, hwB⟩ : ∃ wB, Hid (w1.alloc (.cells #[.pointer none, .slice none 0 0, .bool false] 65) = wB) := ⟨_, Lib.hid rfl⟩
  have hsB : Hid (wB.heap.size = b + 1) := Lib.hid (by rw [← hwB.out, ← hb.out]; simp)
  rw [hb.out, hwB.out] at hw0
  have H0 := Lib.hid hw0
  clear hw0
  go_wp2_with fail
  rw [hwB.out, hb.out]
  refine (enc_byte H0.out 7 _ hsB.out _ (by decide)).mono ?_
  rintro e w2 ⟨rfl, h2⟩
  rw [hbs1.out] at h2
  clear y0 f0 f1 f2 f3 f4 f5 f6 f7 f8 f9 f10 f11 f12 f13 f14
  obtain ⟨f0, f1, f2, f3, f4, f5, f6, f7, f8, f9, f10, f11, f12, f13, f14⟩ := rc_f (HG.out.below (Nw.below h2))
  dsimp only at f0 f1 f2 f3 f4 f5 f6 f7 f8 f9 f10 f11 f12 f13 f14
  have H1 := Lib.hid h2
  clear h2
  go_wp2_with fail
  refine (enc_tid H1.out t1 t2 t3 hl1.out).mono ?_
  rintro e w3 ⟨rfl, h2⟩
  rw [hbs2.out] at h2
  clear f0 f1 f2 f3 f4 f5 f6 f7 f8 f9 f10 f11 f12 f13 f14
  obtain ⟨f0, f1, f2, f3, f4, f5, f6, f7, f8, f9, f10, f11, f12, f13, f14⟩ := rc_f (HG.out.below (Nw.below h2))
  dsimp only at f0 f1 f2 f3 f4 f5 f6 f7 f8 f9 f10 f11 f12 f13 f14
  have H2 := Lib.hid h2
  clear h2
  go_wp2_with fail
  refine (enc_str H2.out _ hfin.out hle.out).mono ?_
  rintro e w9 ⟨rfl, h9⟩
  have H9 := Lib.hid (below2 HB.out h9)
  clear h9 f0 f1 f2 f3 f4 f5 f6 f7 f8 f9 f10 f11 f12 f13 f14
  go_wp2
  go_ret2
  exact ⟨rfl, H9.out⟩
end Go.Proofs.Ytfpocddpnoighaa.Rc

/- record: Encode, kind by kind. -/
namespace Go.Proofs.Ytfpocddpnoighaa.Rc
open Go.RowKit Go.Proofs.Ytfpocddpnoighaa.L Go.Proofs.Ytfpocddpnoighaa.O Go.Proofs.Ytfpocddpnoighaa.A Go.Proofs.Ytfpocddpnoighaa.R Go.Proofs.Ytfpocddpnoighaa.S Go.Proofs.Ytfpocddpnoighaa.T Go.Proofs.Ytfpocddpnoighaa.E Go.Proofs.Ytfpocddpnoighaa.F Go.Proofs.Ytfpocddpnoighaa.It
open Go.Proofs.Ytfpocddpnoighaa.Wr hiding str str_size str_list
set_option linter.unusedVariables false
set_option linter.unusedSimpArgs false

set_option maxHeartbeats 8000000 in
set_option maxRecDepth 100000 in
theorem enc_6 (x : Rc) (iA : Option Addr) (ni ic : Nat) (nA : Option Addr) (nn nc : Nat) (w : World) (hk : x.k = 6) (hi' : Ims w iA ni x.l) (hx' : Rd w nA nn (x.xs.map (Value.int .i64))) (hr : rightB x = true) : Calls Try.prog 57 #[.agg (rcA x (.slice iA ni ic) (.slice nA nn nc))] w fun e w' => e = .returned (.tuple #[.string (str (encB x)), .int .i64 0]) ∧ Below w.heap.size w w' := by
  have HIL := Lib.hid hi'.len
  have HXL : Hid (x.xs.length = nn) := Lib.hid (by simpa using hx'.len)
  have HI := Lib.hid hi'
  have HX := Lib.hid hx'
  clear hi' hx'
  obtain ⟨g, hg⟩ : ∃ g, Hid (w.heap.size = g) := ⟨_, Lib.hid rfl⟩
  obtain ⟨W0, hW0⟩ : ∃ W0, Hid (w.alloc (.cells (rcA x (.slice iA ni ic) (.slice nA nn nc)) 89) = W0) := ⟨_, Lib.hid rfl⟩
  have hb0 : Hid (Below w.heap.size w W0) := Lib.hid (by rw [← hW0.out]; exact below_alloc _ _)
  have HG0 : Hid (RcAt g x (.slice iA ni ic) (.slice nA nn nc) W0) := Lib.hid (by rw [← hW0.out, ← hg.out]; exact rcAt_new _ _ _ _)
  have HC := Lib.hid (right_any x iA ni ic nA nn nc W0 (HI.out.below hb0.out) (HX.out.below hb0.out) true hr)
  obtain ⟨k, t1, t2, t3, l, xs, n1, n2, n3, n4, n5, n6, n7, n8, y⟩ := x
  dsimp only [rcA] at hW0
  dsimp only at hk HIL HXL HI HX
  subst hk
  obtain ⟨bs1, hbs1⟩ : ∃ z, Hid ([] ++ [(6 : UInt8)] = z) := ⟨_, Lib.hid rfl⟩
  have hn1' : bs1.length = 1 := by rw [← hbs1.out]; rfl
  obtain ⟨bs2, hbs2⟩ : ∃ z, Hid (bs1 ++ numsB [t1, t2, t3] = z) := ⟨_, Lib.hid rfl⟩
  have hn2' : bs2.length ≤ 25 := by rw [← hbs2.out]; simp [len_nums, len_items, len_big]; omega
  have hl1 := Lib.hid (show bs1.length + 24 ≤ 140737488355328 by omega)
  obtain ⟨bs3, hbs3⟩ : ∃ z, Hid (bs2 ++ [if y then (1 : UInt8) else 0] = z) := ⟨_, Lib.hid rfl⟩
  have hn3' : bs3.length ≤ 26 := by rw [← hbs3.out]; simp [len_nums, len_items, len_big]; omega
  have hl2 := Lib.hid (show bs2.length + 1 ≤ 140737488355328 by omega)
  have hle := Lib.hid (show bs3.length ≤ 9223372036854775807 by omega)
  have hfin : Hid (saysB bs3 false = str (encB ⟨6, t1, t2, t3, l, xs, n1, n2, n3, n4, n5, n6, n7, n8, y⟩)) := Lib.hid (by
    rw [← hbs3.out, ← hbs2.out, ← hbs1.out]
    show str _ = str _
    congr 1
    unfold encB bodyB
    rw [show kB 6 = [6] by kernel_rfl]
    simp)
  clear hn1' hn2' hn3'
  clear hr
  obtain ⟨f0, f1, f2, f3, f4, f5, f6, f7, f8, f9, f10, f11, f12, f13, f14⟩ := rc_f HG0.out
  dsimp only at f0 f1 f2 f3 f4 f5 f6 f7 f8 f9 f10 f11 f12 f13 f14
  go_enter Try.func57, Try.ntmps57
  go_wp2_with fail
  rw [hW0.out, hg.out]
  refine HC.out.mono ?_
  rintro e w1 ⟨rfl, hb1⟩
  have HB := Lib.hid (below2 hb0.out hb1)
  have HG := Lib.hid (HG0.out.below hb1)
  have HI1 := Lib.hid (HI.out.below HB.out)
  have HX1 := Lib.hid (HX.out.below HB.out)
  clear hb1 HC HG0 f0 f1 f2 f3 f4 f5 f6 f7 f8 f9 f10 f11 f12 f13 f14
  obtain ⟨f0, f1, f2, f3, f4, f5, f6, f7, f8, f9, f10, f11, f12, f13, f14⟩ := rc_f HG.out
  dsimp only at f0 f1 f2 f3 f4 f5 f6 f7 f8 f9 f10 f11 f12 f13 f14
  have y0 := fun o => cell_below (below_alloc _ o) f0
  obtain ⟨b, hb⟩ : ∃ b, Hid (w1.heap.size = b) := ⟨_, Lib.hid rfl⟩
  have hw0 := wrs_new w1 65 (.inr rfl)
  obtain ⟨wB, hwB⟩ : ∃ wB, Hid (w1.alloc (.cells #[.pointer none, .slice none 0 0, .bool false] 65) = wB) := ⟨_, Lib.hid rfl⟩
  have hsB : Hid (wB.heap.size = b + 1) := Lib.hid (by rw [← hwB.out, ← hb.out]; simp)
  rw [hb.out, hwB.out] at hw0
  have H0 := Lib.hid hw0
  clear hw0
  go_wp2_with fail
  rw [hwB.out, hb.out]
  refine (enc_byte H0.out 6 _ hsB.out _ (by decide)).mono ?_
  rintro e w2 ⟨rfl, h2⟩
  rw [hbs1.out] at h2
  clear y0 f0 f1 f2 f3 f4 f5 f6 f7 f8 f9 f10 f11 f12 f13 f14
  obtain ⟨f0, f1, f2, f3, f4, f5, f6, f7, f8, f9, f10, f11, f12, f13, f14⟩ := rc_f (HG.out.below (Nw.below h2))
  dsimp only at f0 f1 f2 f3 f4 f5 f6 f7 f8 f9 f10 f11 f12 f13 f14
  have H1 := Lib.hid h2
  clear h2
  go_wp2_with fail
  refine (enc_tid H1.out t1 t2 t3 hl1.out).mono ?_
  rintro e w3 ⟨rfl, h2⟩
  rw [hbs2.out] at h2
  clear f0 f1 f2 f3 f4 f5 f6 f7 f8 f9 f10 f11 f12 f13 f14
  obtain ⟨f0, f1, f2, f3, f4, f5, f6, f7, f8, f9, f10, f11, f12, f13, f14⟩ := rc_f (HG.out.below (Nw.below h2))
  dsimp only at f0 f1 f2 f3 f4 f5 f6 f7 f8 f9 f10 f11 f12 f13 f14
  have H2 := Lib.hid h2
  clear h2
  go_wp2_with fail
  refine (enc_bool H2.out y hl2.out).mono ?_
  rintro e w4 ⟨rfl, h2⟩
  rw [hbs3.out] at h2
  clear f0 f1 f2 f3 f4 f5 f6 f7 f8 f9 f10 f11 f12 f13 f14
  obtain ⟨f0, f1, f2, f3, f4, f5, f6, f7, f8, f9, f10, f11, f12, f13, f14⟩ := rc_f (HG.out.below (Nw.below h2))
  dsimp only at f0 f1 f2 f3 f4 f5 f6 f7 f8 f9 f10 f11 f12 f13 f14
  have H3 := Lib.hid h2
  clear h2
  go_wp2_with fail
  refine (enc_str H3.out _ hfin.out hle.out).mono ?_
  rintro e w9 ⟨rfl, h9⟩
  have H9 := Lib.hid (below2 HB.out h9)
  clear h9 f0 f1 f2 f3 f4 f5 f6 f7 f8 f9 f10 f11 f12 f13 f14
  go_wp2
  go_ret2
  exact ⟨rfl, H9.out⟩
set_option maxHeartbeats 8000000 in
set_option maxRecDepth 100000 in
theorem enc_10 (x : Rc) (iA : Option Addr) (ni ic : Nat) (nA : Option Addr) (nn nc : Nat) (w : World) (hk : x.k = 10) (hi' : Ims w iA ni x.l) (hx' : Rd w nA nn (x.xs.map (Value.int .i64))) (hr : rightB x = true) : Calls Try.prog 57 #[.agg (rcA x (.slice iA ni ic) (.slice nA nn nc))] w fun e w' => e = .returned (.tuple #[.string (str (encB x)), .int .i64 0]) ∧ Below w.heap.size w w' := by
  have HIL := Lib.hid hi'.len
  have HXL : Hid (x.xs.length = nn) := Lib.hid (by simpa using hx'.len)
  have HI := Lib.hid hi'
  have HX := Lib.hid hx'
  clear hi' hx'
  obtain ⟨g, hg⟩ : ∃ g, Hid (w.heap.size = g) := ⟨_, Lib.hid rfl⟩
  obtain ⟨W0, hW0⟩ : ∃ W0, Hid (w.alloc (.cells (rcA x (.slice iA ni ic) (.slice nA nn nc)) 89) = W0) := ⟨_, Lib.hid rfl⟩
  have hb0 : Hid (Below w.heap.size w W0) := Lib.hid (by rw [← hW0.out]; exact below_alloc _ _)
  have HG0 : Hid (RcAt g x (.slice iA ni ic) (.slice nA nn nc) W0) := Lib.hid (by rw [← hW0.out, ← hg.out]; exact rcAt_new _ _ _ _)
  have HC := Lib.hid (right_any x iA ni ic nA nn nc W0 (HI.out.below hb0.out) (HX.out.below hb0.out) true hr)
  obtain ⟨k, t1, t2, t3, l, xs, n1, n2, n3, n4, n5, n6, n7, n8, y⟩ := x
  dsimp only [rcA] at hW0
  dsimp only at hk HIL HXL HI HX
  subst hk
  obtain ⟨bs1, hbs1⟩ : ∃ z, Hid ([] ++ [(10 : UInt8)] = z) := ⟨_, Lib.hid rfl⟩
  have hn1' : bs1.length = 1 := by rw [← hbs1.out]; rfl
  obtain ⟨bs2, hbs2⟩ : ∃ z, Hid (bs1 ++ numsB [n4, n6] = z) := ⟨_, Lib.hid rfl⟩
  have hn2' : bs2.length ≤ 17 := by rw [← hbs2.out]; simp [len_nums, len_items, len_big]; omega
  have hl1 := Lib.hid (show bs1.length + ([n4, n6] : List Int).length * 8 ≤ 140737488355328 by simp; omega)
  have hle := Lib.hid (show bs2.length ≤ 9223372036854775807 by omega)
  have hfin : Hid (saysB bs2 false = str (encB ⟨10, t1, t2, t3, l, xs, n1, n2, n3, n4, n5, n6, n7, n8, y⟩)) := Lib.hid (by
    rw [← hbs2.out, ← hbs1.out]
    show str _ = str _
    congr 1
    unfold encB bodyB
    rw [show kB 10 = [10] by kernel_rfl]
    simp)
  clear hn1' hn2'
  clear hr
  obtain ⟨f0, f1, f2, f3, f4, f5, f6, f7, f8, f9, f10, f11, f12, f13, f14⟩ := rc_f HG0.out
  dsimp only at f0 f1 f2 f3 f4 f5 f6 f7 f8 f9 f10 f11 f12 f13 f14
  go_enter Try.func57, Try.ntmps57
  go_wp2_with fail
  rw [hW0.out, hg.out]
  refine HC.out.mono ?_
  rintro e w1 ⟨rfl, hb1⟩
  have HB := Lib.hid (below2 hb0.out hb1)
  have HG := Lib.hid (HG0.out.below hb1)
  have HI1 := Lib.hid (HI.out.below HB.out)
  have HX1 := Lib.hid (HX.out.below HB.out)
  clear hb1 HC HG0 f0 f1 f2 f3 f4 f5 f6 f7 f8 f9 f10 f11 f12 f13 f14
  obtain ⟨f0, f1, f2, f3, f4, f5, f6, f7, f8, f9, f10, f11, f12, f13, f14⟩ := rc_f HG.out
  dsimp only at f0 f1 f2 f3 f4 f5 f6 f7 f8 f9 f10 f11 f12 f13 f14
  have y0 := fun o => cell_below (below_alloc _ o) f0
  obtain ⟨b, hb⟩ : ∃ b, Hid (w1.heap.size = b) := ⟨_, Lib.hid rfl⟩
  have hw0 := wrs_new w1 65 (.inr rfl)
  obtain ⟨wB, hwB⟩ : ∃ wB, Hid (w1.alloc (.cells #[.pointer none, .slice none 0 0, .bool false] 65) = wB) := ⟨_, Lib.hid rfl⟩
  have hsB : Hid (wB.heap.size = b + 1) := Lib.hid (by rw [← hwB.out, ← hb.out]; simp)
  rw [hb.out, hwB.out] at hw0
  have H0 := Lib.hid hw0
  clear hw0
  go_wp2_with fail
  rw [hwB.out, hb.out]
  refine (enc_byte H0.out 10 _ hsB.out _ (by decide)).mono ?_
  rintro e w2 ⟨rfl, h2⟩
  rw [hbs1.out] at h2
  clear y0 f0 f1 f2 f3 f4 f5 f6 f7 f8 f9 f10 f11 f12 f13 f14
  obtain ⟨f0, f1, f2, f3, f4, f5, f6, f7, f8, f9, f10, f11, f12, f13, f14⟩ := rc_f (HG.out.below (Nw.below h2))
  dsimp only at f0 f1 f2 f3 f4 f5 f6 f7 f8 f9 f10 f11 f12 f13 f14
  have H1 := Lib.hid h2
  clear h2
  go_wp2_with fail
  refine (enc_nums H1.out [n4, n6] 2 rfl (by decide) _ rfl _ hl1.out).mono ?_
  rintro e w3 ⟨rfl, h2⟩
  rw [hbs2.out] at h2
  clear f0 f1 f2 f3 f4 f5 f6 f7 f8 f9 f10 f11 f12 f13 f14
  obtain ⟨f0, f1, f2, f3, f4, f5, f6, f7, f8, f9, f10, f11, f12, f13, f14⟩ := rc_f (HG.out.below (Nw.below h2))
  dsimp only at f0 f1 f2 f3 f4 f5 f6 f7 f8 f9 f10 f11 f12 f13 f14
  have H2 := Lib.hid h2
  clear h2
  go_wp2_with fail
  refine (enc_str H2.out _ hfin.out hle.out).mono ?_
  rintro e w9 ⟨rfl, h9⟩
  have H9 := Lib.hid (below2 HB.out h9)
  clear h9 f0 f1 f2 f3 f4 f5 f6 f7 f8 f9 f10 f11 f12 f13 f14
  go_wp2
  go_ret2
  exact ⟨rfl, H9.out⟩
set_option maxHeartbeats 8000000 in
set_option maxRecDepth 100000 in
theorem enc_11 (x : Rc) (iA : Option Addr) (ni ic : Nat) (nA : Option Addr) (nn nc : Nat) (w : World) (hk : x.k = 11) (hi' : Ims w iA ni x.l) (hx' : Rd w nA nn (x.xs.map (Value.int .i64))) (hr : rightB x = true) : Calls Try.prog 57 #[.agg (rcA x (.slice iA ni ic) (.slice nA nn nc))] w fun e w' => e = .returned (.tuple #[.string (str (encB x)), .int .i64 0]) ∧ Below w.heap.size w w' := by
  have HIL := Lib.hid hi'.len
  have HXL : Hid (x.xs.length = nn) := Lib.hid (by simpa using hx'.len)
  have HI := Lib.hid hi'
  have HX := Lib.hid hx'
  clear hi' hx'
  obtain ⟨g, hg⟩ : ∃ g, Hid (w.heap.size = g) := ⟨_, Lib.hid rfl⟩
  obtain ⟨W0, hW0⟩ : ∃ W0, Hid (w.alloc (.cells (rcA x (.slice iA ni ic) (.slice nA nn nc)) 89) = W0) := ⟨_, Lib.hid rfl⟩
  have hb0 : Hid (Below w.heap.size w W0) := Lib.hid (by rw [← hW0.out]; exact below_alloc _ _)
  have HG0 : Hid (RcAt g x (.slice iA ni ic) (.slice nA nn nc) W0) := Lib.hid (by rw [← hW0.out, ← hg.out]; exact rcAt_new _ _ _ _)
  have HC := Lib.hid (right_any x iA ni ic nA nn nc W0 (HI.out.below hb0.out) (HX.out.below hb0.out) true hr)
  obtain ⟨k, t1, t2, t3, l, xs, n1, n2, n3, n4, n5, n6, n7, n8, y⟩ := x
  dsimp only [rcA] at hW0
  dsimp only at hk HIL HXL HI HX
  subst hk
  obtain ⟨bs1, hbs1⟩ : ∃ z, Hid ([] ++ [(11 : UInt8)] = z) := ⟨_, Lib.hid rfl⟩
  have hn1' : bs1.length = 1 := by rw [← hbs1.out]; rfl
  obtain ⟨bs2, hbs2⟩ : ∃ z, Hid (bs1 ++ numsB [t1, t2, t3] = z) := ⟨_, Lib.hid rfl⟩
  have hn2' : bs2.length ≤ 25 := by rw [← hbs2.out]; simp [len_nums, len_items, len_big]; omega
  have hl1 := Lib.hid (show bs1.length + 24 ≤ 140737488355328 by omega)
  obtain ⟨bs3, hbs3⟩ : ∃ z, Hid (bs2 ++ [if y then (1 : UInt8) else 0] = z) := ⟨_, Lib.hid rfl⟩
  have hn3' : bs3.length ≤ 26 := by rw [← hbs3.out]; simp [len_nums, len_items, len_big]; omega
  have hl2 := Lib.hid (show bs2.length + 1 ≤ 140737488355328 by omega)
  have hle := Lib.hid (show bs3.length ≤ 9223372036854775807 by omega)
  have hfin : Hid (saysB bs3 false = str (encB ⟨11, t1, t2, t3, l, xs, n1, n2, n3, n4, n5, n6, n7, n8, y⟩)) := Lib.hid (by
    rw [← hbs3.out, ← hbs2.out, ← hbs1.out]
    show str _ = str _
    congr 1
    unfold encB bodyB
    rw [show kB 11 = [11] by kernel_rfl]
    simp)
  clear hn1' hn2' hn3'
  clear hr
  obtain ⟨f0, f1, f2, f3, f4, f5, f6, f7, f8, f9, f10, f11, f12, f13, f14⟩ := rc_f HG0.out
  dsimp only at f0 f1 f2 f3 f4 f5 f6 f7 f8 f9 f10 f11 f12 f13 f14
  go_enter Try.func57, Try.ntmps57
  go_wp2_with fail
  rw [hW0.out, hg.out]
  refine HC.out.mono ?_
  rintro e w1 ⟨rfl, hb1⟩
  have HB := Lib.hid (below2 hb0.out hb1)
  have HG := Lib.hid (HG0.out.below hb1)
  have HI1 := Lib.hid (HI.out.below HB.out)
  have HX1 := Lib.hid (HX.out.below HB.out)
  clear hb1 HC HG0 f0 f1 f2 f3 f4 f5 f6 f7 f8 f9 f10 f11 f12 f13 f14
  obtain ⟨f0, f1, f2, f3, f4, f5, f6, f7, f8, f9, f10, f11, f12, f13, f14⟩ := rc_f HG.out
  dsimp only at f0 f1 f2 f3 f4 f5 f6 f7 f8 f9 f10 f11 f12 f13 f14
  have y0 := fun o => cell_below (below_alloc _ o) f0
  obtain ⟨b, hb⟩ : ∃ b, Hid (w1.heap.size = b) := ⟨_, Lib.hid rfl⟩
  have hw0 := wrs_new w1 65 (.inr rfl)
  obtain ⟨wB, hwB⟩ : ∃ wB, Hid (w1.alloc (.cells #[.pointer none, .slice none 0 0, .bool false] 65) = wB) := ⟨_, Lib.hid rfl⟩
  have hsB : Hid (wB.heap.size = b + 1) := Lib.hid (by rw [← hwB.out, ← hb.out]; simp)
  rw [hb.out, hwB.out] at hw0
  have H0 := Lib.hid hw0
  clear hw0
  go_wp2_with fail
  rw [hwB.out, hb.out]
  refine (enc_byte H0.out 11 _ hsB.out _ (by decide)).mono ?_
  rintro e w2 ⟨rfl, h2⟩
  rw [hbs1.out] at h2
  clear y0 f0 f1 f2 f3 f4 f5 f6 f7 f8 f9 f10 f11 f12 f13 f14
  obtain ⟨f0, f1, f2, f3, f4, f5, f6, f7, f8, f9, f10, f11, f12, f13, f14⟩ := rc_f (HG.out.below (Nw.below h2))
  dsimp only at f0 f1 f2 f3 f4 f5 f6 f7 f8 f9 f10 f11 f12 f13 f14
  have H1 := Lib.hid h2
  clear h2
  go_wp2_with fail
  refine (enc_tid H1.out t1 t2 t3 hl1.out).mono ?_
  rintro e w3 ⟨rfl, h2⟩
  rw [hbs2.out] at h2
  clear f0 f1 f2 f3 f4 f5 f6 f7 f8 f9 f10 f11 f12 f13 f14
  obtain ⟨f0, f1, f2, f3, f4, f5, f6, f7, f8, f9, f10, f11, f12, f13, f14⟩ := rc_f (HG.out.below (Nw.below h2))
  dsimp only at f0 f1 f2 f3 f4 f5 f6 f7 f8 f9 f10 f11 f12 f13 f14
  have H2 := Lib.hid h2
  clear h2
  go_wp2_with fail
  refine (enc_bool H2.out y hl2.out).mono ?_
  rintro e w4 ⟨rfl, h2⟩
  rw [hbs3.out] at h2
  clear f0 f1 f2 f3 f4 f5 f6 f7 f8 f9 f10 f11 f12 f13 f14
  obtain ⟨f0, f1, f2, f3, f4, f5, f6, f7, f8, f9, f10, f11, f12, f13, f14⟩ := rc_f (HG.out.below (Nw.below h2))
  dsimp only at f0 f1 f2 f3 f4 f5 f6 f7 f8 f9 f10 f11 f12 f13 f14
  have H3 := Lib.hid h2
  clear h2
  go_wp2_with fail
  refine (enc_str H3.out _ hfin.out hle.out).mono ?_
  rintro e w9 ⟨rfl, h9⟩
  have H9 := Lib.hid (below2 HB.out h9)
  clear h9 f0 f1 f2 f3 f4 f5 f6 f7 f8 f9 f10 f11 f12 f13 f14
  go_wp2
  go_ret2
  exact ⟨rfl, H9.out⟩
end Go.Proofs.Ytfpocddpnoighaa.Rc

/- record: Encode. -/
namespace Go.Proofs.Ytfpocddpnoighaa.Rc
open Go.RowKit Go.Proofs.Ytfpocddpnoighaa.L Go.Proofs.Ytfpocddpnoighaa.O Go.Proofs.Ytfpocddpnoighaa.A Go.Proofs.Ytfpocddpnoighaa.R Go.Proofs.Ytfpocddpnoighaa.S Go.Proofs.Ytfpocddpnoighaa.T Go.Proofs.Ytfpocddpnoighaa.E Go.Proofs.Ytfpocddpnoighaa.F Go.Proofs.Ytfpocddpnoighaa.It
open Go.Proofs.Ytfpocddpnoighaa.Wr hiding str str_size str_list
set_option linter.unusedVariables false
set_option linter.unusedSimpArgs false

set_option maxHeartbeats 4000000 in
set_option maxRecDepth 100000 in
theorem enc_no (x : Rc) (iA : Option Addr) (ni ic : Nat) (nA : Option Addr) (nn nc : Nat) (w : World) (hi' : Ims w iA ni x.l) (hx' : Rd w nA nn (x.xs.map (Value.int .i64))) (hr : rightB x = false) : Calls Try.prog 57 #[.agg (rcA x (.slice iA ni ic) (.slice nA nn nc))] w fun e w' => e = .returned (.tuple #[.string ⟨#[]⟩, .int .i64 1]) ∧ Below w.heap.size w w' := by
  obtain ⟨g, hg⟩ : ∃ g, Hid (w.heap.size = g) := ⟨_, Lib.hid rfl⟩
  obtain ⟨W0, hW0⟩ : ∃ W0, Hid (w.alloc (.cells (rcA x (.slice iA ni ic) (.slice nA nn nc)) 89) = W0) := ⟨_, Lib.hid rfl⟩
  have hb0 : Hid (Below w.heap.size w W0) := Lib.hid (by rw [← hW0.out]; exact below_alloc _ _)
  have HG0 : Hid (RcAt g x (.slice iA ni ic) (.slice nA nn nc) W0) := Lib.hid (by rw [← hW0.out, ← hg.out]; exact rcAt_new _ _ _ _)
  have HC := Lib.hid (right_any x iA ni ic nA nn nc W0 (hi'.below hb0.out) (hx'.below hb0.out) false hr)
  clear hi' hx' hr
  obtain ⟨k, t1, t2, t3, l, xs, n1, n2, n3, n4, n5, n6, n7, n8, y⟩ := x
  dsimp only [rcA] at hW0
  obtain ⟨f0, f1, f2, f3, f4, f5, f6, f7, f8, f9, f10, f11, f12, f13, f14⟩ := rc_f HG0.out
  dsimp only at f0 f1 f2 f3 f4 f5 f6 f7 f8 f9 f10 f11 f12 f13 f14
  go_enter Try.func57, Try.ntmps57
  go_wp2_with fail
  rw [hW0.out, hg.out]
  refine HC.out.mono ?_
  rintro e w1 ⟨rfl, hb1⟩
  have HB := Lib.hid (below2 hb0.out hb1)
  clear hb1 HC HG0 f0 f1 f2 f3 f4 f5 f6 f7 f8 f9 f10 f11 f12 f13 f14
  go_wp2
  go_ret2
  exact ⟨rfl, HB.out⟩
/-- what Encode gives. -/
def encS (x : Rc) : ByteArray := if rightB x then str (encB x) else ⟨#[]⟩
def encE (x : Rc) : Int := if rightB x then 0 else 1
theorem encode_any (x : Rc) (iA : Option Addr) (ni ic : Nat) (nA : Option Addr) (nn nc : Nat) (w : World) (hi' : Ims w iA ni x.l) (hx' : Rd w nA nn (x.xs.map (Value.int .i64))) : Calls Try.prog 57 #[.agg (rcA x (.slice iA ni ic) (.slice nA nn nc))] w fun e w' => e = .returned (.tuple #[.string (encS x), .int .i64 (encE x)]) ∧ Below w.heap.size w w' := by
  unfold encS encE
  cases hr : rightB x
  · exact enc_no x _ _ _ _ _ _ w hi' hx' hr
  · have hk : okB x = true := by have := hr; unfold rightB at this; rw [Bool.and_eq_true] at this; exact this.2
    rcases kinds x hk with h | h | h | h | h | h | h | h | h | h | h | h
    · exact enc_1 x _ _ _ _ _ _ w h hi' hx' hr
    · exact enc_2 x _ _ _ _ _ _ w h hi' hx' hr
    · exact enc_3 x _ _ _ _ _ _ w h hi' hx' hr
    · exact enc_4 x _ _ _ _ _ _ w h hi' hx' hr
    · exact enc_5 x _ _ _ _ _ _ w h hi' hx' hr
    · exact enc_6 x _ _ _ _ _ _ w h hi' hx' hr
    · exact enc_7 x _ _ _ _ _ _ w h hi' hx' hr
    · exact enc_8 x _ _ _ _ _ _ w h hi' hx' hr
    · exact enc_9 x _ _ _ _ _ _ w h hi' hx' hr
    · exact enc_10 x _ _ _ _ _ _ w h hi' hx' hr
    · exact enc_11 x _ _ _ _ _ _ w h hi' hx' hr
    · exact enc_12 x _ _ _ _ _ _ w h hi' hx' hr
end Go.Proofs.Ytfpocddpnoighaa.Rc

/- record: the document's number, Same; Plain. -/
namespace Go.Proofs.Ytfpocddpnoighaa.Rc
open Go.RowKit Go.Proofs.Ytfpocddpnoighaa.L Go.Proofs.Ytfpocddpnoighaa.O Go.Proofs.Ytfpocddpnoighaa.A Go.Proofs.Ytfpocddpnoighaa.R Go.Proofs.Ytfpocddpnoighaa.S Go.Proofs.Ytfpocddpnoighaa.T Go.Proofs.Ytfpocddpnoighaa.E Go.Proofs.Ytfpocddpnoighaa.F Go.Proofs.Ytfpocddpnoighaa.It
open Go.Proofs.Ytfpocddpnoighaa.Wr hiding str str_size str_list
set_option linter.unusedVariables false
set_option linter.unusedSimpArgs false

theorem ret_rf {fn : Func} {p : Tmp} (h : fn.results = #[.cell p 93]) (tmps : Array Value) (w : World) (g : Nat) (x : Rc) (I N : Value) (hp : tmps.getD p undef = .pointer (some ⟨g, 0, none⟩)) (hg : w.heap[g]? = some (.cells (rcA x I N) 93 (0, 0))) :
    (results fn tmps).run Try.prog w = .ok (.agg (rcA x I N)) w :=
  results_cell_row h tmps w g 93 (rcA x I N) (0, 0) _ hp hg Try.underlying93 rfl (by kernel_rfl)
/-- a document's record, in a block. -/
def RfAt (g : Nat) (x : Rc) (I N : Value) (W : World) : Prop := W.heap[g]? = some (.cells (rcA x I N) 93 (0, 0))
theorem rfAt_new (w : World) (x : Rc) (I N : Value) : RfAt w.heap.size x I N (w.alloc (.cells (rcA x I N) 93)) := heap_alloc_new _ _
theorem RfAt.below {g : Nat} {x : Rc} {I N : Value} {W W' : World} (h : RfAt g x I N W) (hb : Below W.heap.size W W') : RfAt g x I N W' := keep_block (.of_below (S := []) hb) h (by simp)
set_option maxHeartbeats 4000000 in
set_option maxRecDepth 100000 in
theorem number_any (x : Rc) (iA : Option Addr) (ni ic : Nat) (nA : Option Addr) (nn nc : Nat) (f : Nat) (hf : f ≤ 8) (w : World) (q : Int) (hq : x.num f = q) : Calls Try.prog 100 #[.agg (rcA x (.slice iA ni ic) (.slice nA nn nc)), .int .i64 f] w fun e w' => e = .returned (.int .i64 q) ∧ Below w.heap.size w w' := by
  obtain ⟨k, t1, t2, t3, l, xs, n1, n2, n3, n4, n5, n6, n7, n8, y⟩ := x
  rcases (by omega : f = 0 ∨ f = 1 ∨ f = 2 ∨ f = 3 ∨ f = 4 ∨ f = 5 ∨ f = 6 ∨ f = 7 ∨ f = 8) with rfl | rfl | rfl | rfl | rfl | rfl | rfl | rfl | rfl
  · have e0 : Hid (0 = q) := Lib.hid hq
    clear hq hf
    go_enter Try.func100, Try.ntmps100
    go_wp2
    go_ret
    exact ⟨reti e0.out, below2 (below_alloc _ _) (below_alloc _ _)⟩
  · have e0 : Hid (n1 = q) := Lib.hid hq
    clear hq hf
    go_enter Try.func100, Try.ntmps100
    go_wp2
    go_ret
    exact ⟨reti e0.out, below2 (below_alloc _ _) (below_alloc _ _)⟩
  · have e0 : Hid (n2 = q) := Lib.hid hq
    clear hq hf
    go_enter Try.func100, Try.ntmps100
    go_wp2
    go_ret
    exact ⟨reti e0.out, below2 (below_alloc _ _) (below_alloc _ _)⟩
  · have e0 : Hid (n3 = q) := Lib.hid hq
    clear hq hf
    go_enter Try.func100, Try.ntmps100
    go_wp2
    go_ret
    exact ⟨reti e0.out, below2 (below_alloc _ _) (below_alloc _ _)⟩
  · have e0 : Hid (n4 = q) := Lib.hid hq
    clear hq hf
    go_enter Try.func100, Try.ntmps100
    go_wp2
    go_ret
    exact ⟨reti e0.out, below2 (below_alloc _ _) (below_alloc _ _)⟩
  · have e0 : Hid (n5 = q) := Lib.hid hq
    clear hq hf
    go_enter Try.func100, Try.ntmps100
    go_wp2
    go_ret
    exact ⟨reti e0.out, below2 (below_alloc _ _) (below_alloc _ _)⟩
  · have e0 : Hid (n6 = q) := Lib.hid hq
    clear hq hf
    go_enter Try.func100, Try.ntmps100
    go_wp2
    go_ret
    exact ⟨reti e0.out, below2 (below_alloc _ _) (below_alloc _ _)⟩
  · have e0 : Hid (n7 = q) := Lib.hid hq
    clear hq hf
    go_enter Try.func100, Try.ntmps100
    go_wp2
    go_ret
    exact ⟨reti e0.out, below2 (below_alloc _ _) (below_alloc _ _)⟩
  · have e0 : Hid (n8 = q) := Lib.hid hq
    clear hq hf
    go_enter Try.func100, Try.ntmps100
    go_wp2
    go_ret
    exact ⟨reti e0.out, below2 (below_alloc _ _) (below_alloc _ _)⟩
set_option maxHeartbeats 4000000 in
set_option maxRecDepth 100000 in
theorem plain_ref (x : Rc) (iA : Option Addr) (ni ic : Nat) (nA : Option Addr) (nn nc : Nat) (w : World) : Calls Try.prog 59 #[.agg (rcA x (.slice iA ni ic) (.slice nA nn nc))] w fun e w' => e = .returned (.agg (rcA x (.slice iA ni ic) (.slice nA nn nc))) ∧ Below w.heap.size w w' := by
  obtain ⟨k, t1, t2, t3, l, xs, n1, n2, n3, n4, n5, n6, n7, n8, y⟩ := x
  go_enter Try.func59, Try.ntmps59
  go_wp2
  refine bodyPost_ret (ret_rf Try.results59 _ _ (w.heap.size + 1) ⟨k, t1, t2, t3, l, xs, n1, n2, n3, n4, n5, n6, n7, n8, y⟩ _ _ (by simp) (by exact heap_alloc2_new w _ _)) rfl ⟨rfl, below2 (below_alloc _ _) (below_alloc _ _)⟩
theorem num_all {x z : Rc} (h : ∀ f, 1 ≤ f → f ≤ 8 → x.num f = z.num f) : nB x z = true := by
  have a1 := h 1 (by decide) (by decide); have a2 := h 2 (by decide) (by decide); have a3 := h 3 (by decide) (by decide); have a4 := h 4 (by decide) (by decide)
  have a5 := h 5 (by decide) (by decide); have a6 := h 6 (by decide) (by decide); have a7 := h 7 (by decide) (by decide); have a8 := h 8 (by decide) (by decide)
  simp only [Rc.num] at a1 a2 a3 a4 a5 a6 a7 a8
  simp [nB, a1, a2, a3, a4, a5, a6, a7, a8]
theorem alike_iff (x z : Rc) : decide (x = z) = (nB x z && (x.k == z.k && (tB x.t1 x.t2 x.t3 z.t1 z.t2 z.t3 && (x.y == z.y && (decide (x.l = z.l) && decide (x.xs = z.xs)))))) := by
  obtain ⟨k, t1, t2, t3, l, xs, n1, n2, n3, n4, n5, n6, n7, n8, y⟩ := x
  obtain ⟨zk, s1, s2, s3, zl, zs, m1, m2, m3, m4, m5, m6, m7, m8, vy⟩ := z
  rw [Bool.eq_iff_iff]
  simp only [tB, nB, Bool.and_eq_true, beq_iff_eq, decide_eq_true_iff, Rc.mk.injEq]
  constructor
  · rintro ⟨e0, e3, e4, e5, e1, e2, e7, e8, e9, e10, e11, e12, e13, e14, e6⟩
    exact ⟨⟨e7, e8, e9, e10, e11, e12, e13, e14⟩, e0, ⟨e3, e4, e5⟩, e6, e1, e2⟩
  · rintro ⟨⟨e7, e8, e9, e10, e11, e12, e13, e14⟩, e0, ⟨e3, e4, e5⟩, e6, e1, e2⟩
    exact ⟨e0, e3, e4, e5, e1, e2, e7, e8, e9, e10, e11, e12, e13, e14, e6⟩
theorem num_diff {x z : Rc} {f : Nat} (h : x.num f ≠ z.num f) : decide (x = z) = false := by
  rw [decide_eq_false_iff_not]; rintro rfl; exact h rfl
set_option maxHeartbeats 8000000 in
set_option maxRecDepth 100000 in
theorem same_any (x : Rc) (iA : Option Addr) (ni ic : Nat) (nA : Option Addr) (nn nc : Nat) (z : Rc) (jA : Option Addr) (mi jc : Nat) (mA : Option Addr) (mn mc : Nat) (w : World) (hx1 : Ims w iA ni x.l) (hx2 : Rd w nA nn (x.xs.map (Value.int .i64))) (hz1 : Ims w jA mi z.l) (hz2 : Rd w mA mn (z.xs.map (Value.int .i64))) (q : Bool) (hq : decide (x = z) = q) :
    Calls Try.prog 58 #[.agg (rcA x (.slice iA ni ic) (.slice nA nn nc)), .agg (rcA z (.slice jA mi jc) (.slice mA mn mc))] w fun e w' => e = .returned (.bool q) ∧ Below w.heap.size w w' := by
  have HX1 := Lib.hid hx1
  have HX2 := Lib.hid hx2
  have HZ1 := Lib.hid hz1
  have HZ2 := Lib.hid hz2
  have HQ := Lib.hid hq
  clear hx1 hx2 hz1 hz2 hq
  obtain ⟨g, hg⟩ : ∃ g, Hid (w.heap.size = g) := ⟨_, Lib.hid rfl⟩
  obtain ⟨W0, hW0⟩ : ∃ W0, Hid ((w.alloc (.cells (rcA x (.slice iA ni ic) (.slice nA nn nc)) 93)).alloc (.cells (rcA z (.slice jA mi jc) (.slice mA mn mc)) 93) = W0) := ⟨_, Lib.hid rfl⟩
  have hb0 : Hid (Below w.heap.size w W0) := Lib.hid (by rw [← hW0.out]; exact below2 (below_alloc _ _) (below_alloc _ _))
  have HA : Hid (∀ W, Below W0.heap.size W0 W → RfAt g x (.slice iA ni ic) (.slice nA nn nc) W ∧ RfAt (g + 1) z (.slice jA mi jc) (.slice mA mn mc) W) := Lib.hid (by
    intro W hb
    rw [← hg.out]
    refine ⟨RfAt.below ?_ hb, RfAt.below ?_ hb⟩
    · rw [← hW0.out]; exact (rfAt_new _ _ _ _).below (below_alloc _ _)
    · rw [← hW0.out]; exact heap_alloc2_new _ _ _)
  obtain ⟨k, t1, t2, t3, l, xs, n1, n2, n3, n4, n5, n6, n7, n8, y⟩ := x
  obtain ⟨zk, s1, s2, s3, zl, zs, m1, m2, m3, m4, m5, m6, m7, m8, vy⟩ := z
  dsimp only at HX1 HX2 HZ1 HZ2
  dsimp only [rcA] at hW0
  go_enter Try.func58, Try.ntmps58
  go_wp2_with fail
  rw [hW0.out, hg.out]
  go_loopw [5] (fun i wr => ∃ f : Nat, 1 ≤ f ∧ f ≤ 9 ∧ i = .int .i64 f ∧ Below W0.heap.size W0 wr ∧ Hid (∀ j, 1 ≤ j → j < f → Rc.num ⟨k, t1, t2, t3, l, xs, n1, n2, n3, n4, n5, n6, n7, n8, y⟩ j = Rc.num ⟨zk, s1, s2, s3, zl, zs, m1, m2, m3, m4, m5, m6, m7, m8, vy⟩ j)) (fun i _ => 9 - (intOf i).toNat)
  case atStart => exact ⟨1, by omega, by omega, rfl, Below.refl _ _, Lib.hid fun j h1 h2 => absurd h2 (by omega)⟩
  case round =>
    obtain ⟨f, hf1, hf9, rfl, hb', hall⟩ := hrel
    have HB := Lib.hid hb'
    by_cases hlt : f ≤ 8
    · have hf8 := Lib.hid hlt
      obtain ⟨c1, hc1⟩ : ∃ c, Hid (Rc.num ⟨k, t1, t2, t3, l, xs, n1, n2, n3, n4, n5, n6, n7, n8, y⟩ f = c) := ⟨_, Lib.hid rfl⟩
      obtain ⟨c2, hc2⟩ : ∃ c, Hid (Rc.num ⟨zk, s1, s2, s3, zl, zs, m1, m2, m3, m4, m5, m6, m7, m8, vy⟩ f = c) := ⟨_, Lib.hid rfl⟩
      have hS0 : Below W0.heap.size W0 wr.drew := below2 hb' (below_drew (Below.refl _ _))
      clear hb'
      by_cases hcc : c1 = c2
      · subst hcc
        have HN : Hid (∀ j, 1 ≤ j → j < f + 1 → Rc.num ⟨k, t1, t2, t3, l, xs, n1, n2, n3, n4, n5, n6, n7, n8, y⟩ j = Rc.num ⟨zk, s1, s2, s3, zl, zs, m1, m2, m3, m4, m5, m6, m7, m8, vy⟩ j) := Lib.hid (fun j h1 h2 => by
          rcases Nat.lt_or_ge j f with h | h
          · exact hall.out j h1 h
          · obtain rfl : j = f := by omega
            rw [hc1.out, hc2.out])
        go_wp2_with fail
        refine wp_region_one (fun W => Below W0.heap.size W0 W) (fun u v => Below u.heap.size u v) (fun a i => match i with
            | 0 => (fun v _ => v = .agg #[.int .i64 k, .int .i64 t1, .int .i64 t2, .int .i64 t3, .slice iA ni ic, .slice nA nn nc, .int .i64 n1, .int .i64 n2, .int .i64 n3, .int .i64 n4, .int .i64 n5, .int .i64 n6, .int .i64 n7, .int .i64 n8, .bool y])
            | 1 => (fun v _ => v = .int .i64 (f : Nat))
            | 2 => (fun v _ => v = .int .i64 c1)
            | 3 => (fun v _ => v = .agg #[.int .i64 zk, .int .i64 s1, .int .i64 s2, .int .i64 s3, .slice jA mi jc, .slice mA mn mc, .int .i64 m1, .int .i64 m2, .int .i64 m3, .int .i64 m4, .int .i64 m5, .int .i64 m6, .int .i64 m7, .int .i64 m8, .bool vy])
            | 4 => (fun v _ => v = .int .i64 (f : Nat))
            | 5 => (fun v _ => v = .int .i64 c1)
            | 6 => (fun v _ => v = .bool false)
            | _ => (fun _ _ => True)) #[0, 0, 3, 0, 0, 31, 63] #[0, 0, 3, 0, 0, 24, 36] 127 (by kernel_rfl) 7 rfl (fun m hm => by subst hm; kernel_rfl) (by kernel_rfl) (fun w => Below.refl _ w) (fun u v w h1 h2 => below2 h1 h2) ?_ (hS0) ?_ ?_
        · intro i hi
          rcases (by omega : i = 0 ∨ i = 1 ∨ i = 2 ∨ i = 3 ∨ i = 4 ∨ i = 5 ∨ i = 6) with rfl | rfl | rfl | rfl | rfl | rfl | rfl
          · exact fun v w w' h hr => by exact h
          · exact fun v w w' h hr => by exact h
          · exact fun v w w' h hr => by exact h
          · exact fun v w w' h hr => by exact h
          · exact fun v w w' h hr => by exact h
          · exact fun v w w' h hr => by exact h
          · exact fun v w w' h hr => by exact h
        · intro i hi
          rcases (by omega : i = 0 ∨ i = 1 ∨ i = 2 ∨ i = 3 ∨ i = 4 ∨ i = 5 ∨ i = 6) with rfl | rfl | rfl | rfl | rfl | rfl | rfl
          · -- 0: Op.load 93 (Operand.tmp 2)
            intro l hl vs W hS hR hp
            obtain rfl : l = [] := hl.symm.trans (by kernel_rfl)
            clear hp hl
            refine opgoal (_) (some 10) rfl rfl fun K hK => ?_
            obtain ⟨f0, f1, f2, f3, f4, f5, f6, f7, f8, f9, f10, f11, f12, f13, f14⟩ := rc_f (HA.out W hS).1
            dsimp only at f0 f1 f2 f3 f4 f5 f6 f7 f8 f9 f10 f11 f12 f13 f14
            refine Runs.mk ?_
            simp only [putAll]
            go_simp
            refine hK _ _ ?_ hS ((fun w => Below.refl _ w) W) _ rfl rfl
            first | rfl | go_simp | simp
          · -- 1: Op.move (Operand.tmp 5)
            intro l hl vs W hS hR hp
            obtain rfl : l = [] := hl.symm.trans (by kernel_rfl)
            clear hp hl
            refine opgoal (_) (some 11) rfl rfl fun K hK => ?_
            refine Runs.mk ?_
            simp only [putAll]
            go_simp
            refine hK _ _ ?_ hS ((fun w => Below.refl _ w) W) _ rfl rfl
            first | rfl | go_simp | simp
          · -- 2: Op.call { callee := Callee.value (Operand.func 100), args := #[Operand.tmp 10, Operand.tmp 11], argTypes := #[93, 3] }
            intro l hl vs W hS hR hp
            obtain rfl : l = [(0, 10), (1, 11)] := hl.symm.trans (by kernel_rfl)
            have p0 : vs 0 = _ := hp 0 (by decide) (by decide)
            have p1 : vs 1 = _ := hp 1 (by decide) (by decide)
            clear hp hl
            refine opgoal (_) (some 12) rfl rfl fun K hK => ?_
            refine Runs.mk ?_
            simp only [putAll]
            go_simp
            refine (number_any ⟨k, t1, t2, t3, l, xs, n1, n2, n3, n4, n5, n6, n7, n8, y⟩ iA ni ic nA nn nc f hf8.out W c1 hc1.out).mono ?_
            rintro e w' ⟨rfl, hb⟩
            go_simp
            exact hK _ _ rfl (below2 hS hb) hb _ rfl rfl
          · -- 3: Op.load 93 (Operand.tmp 3)
            intro l hl vs W hS hR hp
            obtain rfl : l = [] := hl.symm.trans (by kernel_rfl)
            clear hp hl
            refine opgoal (_) (some 13) rfl rfl fun K hK => ?_
            obtain ⟨f0, f1, f2, f3, f4, f5, f6, f7, f8, f9, f10, f11, f12, f13, f14⟩ := rc_f (HA.out W hS).2
            dsimp only at f0 f1 f2 f3 f4 f5 f6 f7 f8 f9 f10 f11 f12 f13 f14
            refine Runs.mk ?_
            simp only [putAll]
            go_simp
            refine hK _ _ ?_ hS ((fun w => Below.refl _ w) W) _ rfl rfl
            first | rfl | go_simp | simp
          · -- 4: Op.move (Operand.tmp 5)
            intro l hl vs W hS hR hp
            obtain rfl : l = [] := hl.symm.trans (by kernel_rfl)
            clear hp hl
            refine opgoal (_) (some 14) rfl rfl fun K hK => ?_
            refine Runs.mk ?_
            simp only [putAll]
            go_simp
            refine hK _ _ ?_ hS ((fun w => Below.refl _ w) W) _ rfl rfl
            first | rfl | go_simp | simp
          · -- 5: Op.call { callee := Callee.value (Operand.func 100), args := #[Operand.tmp 13, Operand.tmp 14], argTypes := #[93, 3] }
            intro l hl vs W hS hR hp
            obtain rfl : l = [(0, 10), (1, 11), (2, 12), (3, 13), (4, 14)] := hl.symm.trans (by kernel_rfl)
            have p3 : vs 3 = _ := hp 3 (by decide) (by decide)
            have p4 : vs 4 = _ := hp 4 (by decide) (by decide)
            clear hp hl
            refine opgoal (_) (some 15) rfl rfl fun K hK => ?_
            refine Runs.mk ?_
            simp only [putAll]
            go_simp
            refine (number_any ⟨zk, s1, s2, s3, zl, zs, m1, m2, m3, m4, m5, m6, m7, m8, vy⟩ jA mi jc mA mn mc f hf8.out W c1 hc2.out).mono ?_
            rintro e w' ⟨rfl, hb⟩
            go_simp
            exact hK _ _ rfl (below2 hS hb) hb _ rfl rfl
          · -- 6: Op.binOp BinOp.neq 3 (Operand.tmp 12) (Operand.tmp 15) 3
            intro l hl vs W hS hR hp
            obtain rfl : l = [(0, 10), (1, 11), (2, 12), (3, 13), (4, 14), (5, 15)] := hl.symm.trans (by kernel_rfl)
            have p2 : vs 2 = _ := hp 2 (by decide) (by decide)
            have p5 : vs 5 = _ := hp 5 (by decide) (by decide)
            clear hp hl
            refine opgoal (_) (some 16) rfl rfl fun K hK => ?_
            refine Runs.mk ?_
            simp only [putAll]
            go_simp
            refine hK _ _ ?_ hS ((fun w => Below.refl _ w) W) _ rfl rfl
            first | rfl | go_simp | simp
        · intro l hl vs W hS hR hp
          obtain rfl : l = [(0, 10), (1, 11), (2, 12), (3, 13), (4, 14), (5, 15), (6, 16)] := hl.symm.trans (by kernel_rfl)
          have p0 : vs 0 = _ := hp 0 (by decide) (by decide)
          have p1 : vs 1 = _ := hp 1 (by decide) (by decide)
          have p2 : vs 2 = _ := hp 2 (by decide) (by decide)
          have p3 : vs 3 = _ := hp 3 (by decide) (by decide)
          have p4 : vs 4 = _ := hp 4 (by decide) (by decide)
          have p5 : vs 5 = _ := hp 5 (by decide) (by decide)
          have p6 : vs 6 = _ := hp 6 (by decide) (by decide)
          clear hp hl
          simp only [putAll_mk, setAll, List.setIfInBounds_toArray, List.set_cons_succ, List.set_cons_zero, p0, p1, p2, p3, p4, p5, p6]
          have HS := Lib.hid hS
          clear hS hR hS0
          go_wp2
          go_roundw
          case rel => exact ⟨f + 1, by omega, by have := hf8.out; omega, by go_num, HS.out, HN⟩
          case measure => simp [intOf]; have := hf8.out; omega
      · have HN : Hid (q = false) := Lib.hid (by rw [← HQ.out]; exact num_diff (f := f) (by rw [hc1.out, hc2.out]; exact hcc))
        have HD : Hid (decide (c1 = c2) = false) := Lib.hid (by simpa using hcc)
        clear hcc
        go_wp2_with fail
        refine wp_region_one (fun W => Below W0.heap.size W0 W) (fun u v => Below u.heap.size u v) (fun a i => match i with
            | 0 => (fun v _ => v = .agg #[.int .i64 k, .int .i64 t1, .int .i64 t2, .int .i64 t3, .slice iA ni ic, .slice nA nn nc, .int .i64 n1, .int .i64 n2, .int .i64 n3, .int .i64 n4, .int .i64 n5, .int .i64 n6, .int .i64 n7, .int .i64 n8, .bool y])
            | 1 => (fun v _ => v = .int .i64 (f : Nat))
            | 2 => (fun v _ => v = .int .i64 c1)
            | 3 => (fun v _ => v = .agg #[.int .i64 zk, .int .i64 s1, .int .i64 s2, .int .i64 s3, .slice jA mi jc, .slice mA mn mc, .int .i64 m1, .int .i64 m2, .int .i64 m3, .int .i64 m4, .int .i64 m5, .int .i64 m6, .int .i64 m7, .int .i64 m8, .bool vy])
            | 4 => (fun v _ => v = .int .i64 (f : Nat))
            | 5 => (fun v _ => v = .int .i64 c2)
            | 6 => (fun v _ => v = .bool true)
            | _ => (fun _ _ => True)) #[0, 0, 3, 0, 0, 31, 63] #[0, 0, 3, 0, 0, 24, 36] 127 (by kernel_rfl) 7 rfl (fun m hm => by subst hm; kernel_rfl) (by kernel_rfl) (fun w => Below.refl _ w) (fun u v w h1 h2 => below2 h1 h2) ?_ (hS0) ?_ ?_
        · intro i hi
          rcases (by omega : i = 0 ∨ i = 1 ∨ i = 2 ∨ i = 3 ∨ i = 4 ∨ i = 5 ∨ i = 6) with rfl | rfl | rfl | rfl | rfl | rfl | rfl
          · exact fun v w w' h hr => by exact h
          · exact fun v w w' h hr => by exact h
          · exact fun v w w' h hr => by exact h
          · exact fun v w w' h hr => by exact h
          · exact fun v w w' h hr => by exact h
          · exact fun v w w' h hr => by exact h
          · exact fun v w w' h hr => by exact h
        · intro i hi
          rcases (by omega : i = 0 ∨ i = 1 ∨ i = 2 ∨ i = 3 ∨ i = 4 ∨ i = 5 ∨ i = 6) with rfl | rfl | rfl | rfl | rfl | rfl | rfl
          · -- 0: Op.load 93 (Operand.tmp 2)
            intro l hl vs W hS hR hp
            obtain rfl : l = [] := hl.symm.trans (by kernel_rfl)
            clear hp hl
            refine opgoal (_) (some 10) rfl rfl fun K hK => ?_
            obtain ⟨f0, f1, f2, f3, f4, f5, f6, f7, f8, f9, f10, f11, f12, f13, f14⟩ := rc_f (HA.out W hS).1
            dsimp only at f0 f1 f2 f3 f4 f5 f6 f7 f8 f9 f10 f11 f12 f13 f14
            refine Runs.mk ?_
            simp only [putAll]
            go_simp
            refine hK _ _ ?_ hS ((fun w => Below.refl _ w) W) _ rfl rfl
            first | rfl | go_simp | simp
          · -- 1: Op.move (Operand.tmp 5)
            intro l hl vs W hS hR hp
            obtain rfl : l = [] := hl.symm.trans (by kernel_rfl)
            clear hp hl
            refine opgoal (_) (some 11) rfl rfl fun K hK => ?_
            refine Runs.mk ?_
            simp only [putAll]
            go_simp
            refine hK _ _ ?_ hS ((fun w => Below.refl _ w) W) _ rfl rfl
            first | rfl | go_simp | simp
          · -- 2: Op.call { callee := Callee.value (Operand.func 100), args := #[Operand.tmp 10, Operand.tmp 11], argTypes := #[93, 3] }
            intro l hl vs W hS hR hp
            obtain rfl : l = [(0, 10), (1, 11)] := hl.symm.trans (by kernel_rfl)
            have p0 : vs 0 = _ := hp 0 (by decide) (by decide)
            have p1 : vs 1 = _ := hp 1 (by decide) (by decide)
            clear hp hl
            refine opgoal (_) (some 12) rfl rfl fun K hK => ?_
            refine Runs.mk ?_
            simp only [putAll]
            go_simp
            refine (number_any ⟨k, t1, t2, t3, l, xs, n1, n2, n3, n4, n5, n6, n7, n8, y⟩ iA ni ic nA nn nc f hf8.out W c1 hc1.out).mono ?_
            rintro e w' ⟨rfl, hb⟩
            go_simp
            exact hK _ _ rfl (below2 hS hb) hb _ rfl rfl
          · -- 3: Op.load 93 (Operand.tmp 3)
            intro l hl vs W hS hR hp
            obtain rfl : l = [] := hl.symm.trans (by kernel_rfl)
            clear hp hl
            refine opgoal (_) (some 13) rfl rfl fun K hK => ?_
            obtain ⟨f0, f1, f2, f3, f4, f5, f6, f7, f8, f9, f10, f11, f12, f13, f14⟩ := rc_f (HA.out W hS).2
            dsimp only at f0 f1 f2 f3 f4 f5 f6 f7 f8 f9 f10 f11 f12 f13 f14
            refine Runs.mk ?_
            simp only [putAll]
            go_simp
            refine hK _ _ ?_ hS ((fun w => Below.refl _ w) W) _ rfl rfl
            first | rfl | go_simp | simp
          · -- 4: Op.move (Operand.tmp 5)
            intro l hl vs W hS hR hp
            obtain rfl : l = [] := hl.symm.trans (by kernel_rfl)
            clear hp hl
            refine opgoal (_) (some 14) rfl rfl fun K hK => ?_
            refine Runs.mk ?_
            simp only [putAll]
            go_simp
            refine hK _ _ ?_ hS ((fun w => Below.refl _ w) W) _ rfl rfl
            first | rfl | go_simp | simp
          · -- 5: Op.call { callee := Callee.value (Operand.func 100), args := #[Operand.tmp 13, Operand.tmp 14], argTypes := #[93, 3] }
            intro l hl vs W hS hR hp
            obtain rfl : l = [(0, 10), (1, 11), (2, 12), (3, 13), (4, 14)] := hl.symm.trans (by kernel_rfl)
            have p3 : vs 3 = _ := hp 3 (by decide) (by decide)
            have p4 : vs 4 = _ := hp 4 (by decide) (by decide)
            clear hp hl
            refine opgoal (_) (some 15) rfl rfl fun K hK => ?_
            refine Runs.mk ?_
            simp only [putAll]
            go_simp
            refine (number_any ⟨zk, s1, s2, s3, zl, zs, m1, m2, m3, m4, m5, m6, m7, m8, vy⟩ jA mi jc mA mn mc f hf8.out W c2 hc2.out).mono ?_
            rintro e w' ⟨rfl, hb⟩
            go_simp
            exact hK _ _ rfl (below2 hS hb) hb _ rfl rfl
          · -- 6: Op.binOp BinOp.neq 3 (Operand.tmp 12) (Operand.tmp 15) 3
            intro l hl vs W hS hR hp
            obtain rfl : l = [(0, 10), (1, 11), (2, 12), (3, 13), (4, 14), (5, 15)] := hl.symm.trans (by kernel_rfl)
            have p2 : vs 2 = _ := hp 2 (by decide) (by decide)
            have p5 : vs 5 = _ := hp 5 (by decide) (by decide)
            clear hp hl
            refine opgoal (_) (some 16) rfl rfl fun K hK => ?_
            refine Runs.mk ?_
            simp only [putAll]
            go_simp
            refine hK _ _ ?_ hS (Below.refl _ W) _ rfl rfl
            have hd := HD.out
            simp at hd
            simp [hd]
        · intro l hl vs W hS hR hp
          obtain rfl : l = [(0, 10), (1, 11), (2, 12), (3, 13), (4, 14), (5, 15), (6, 16)] := hl.symm.trans (by kernel_rfl)
          have p0 : vs 0 = _ := hp 0 (by decide) (by decide)
          have p1 : vs 1 = _ := hp 1 (by decide) (by decide)
          have p2 : vs 2 = _ := hp 2 (by decide) (by decide)
          have p3 : vs 3 = _ := hp 3 (by decide) (by decide)
          have p4 : vs 4 = _ := hp 4 (by decide) (by decide)
          have p5 : vs 5 = _ := hp 5 (by decide) (by decide)
          have p6 : vs 6 = _ := hp 6 (by decide) (by decide)
          clear hp hl
          simp only [putAll_mk, setAll, List.setIfInBounds_toArray, List.set_cons_succ, List.set_cons_zero, p0, p1, p2, p3, p4, p5, p6]
          have HS := Lib.hid hS
          clear hS hR hS0
          go_wp2
          go_ret
          exact ⟨retbf HN.out, below2 hb0.out HS.out⟩
    · obtain rfl : f = 9 := by omega
      have hn : nB ⟨k, t1, t2, t3, l, xs, n1, n2, n3, n4, n5, n6, n7, n8, y⟩ ⟨zk, s1, s2, s3, zl, zs, m1, m2, m3, m4, m5, m6, m7, m8, vy⟩ = true := num_all (fun j h1 h2 => hall.out j h1 (by omega))
      have hq2 := (alike_iff ⟨k, t1, t2, t3, l, xs, n1, n2, n3, n4, n5, n6, n7, n8, y⟩ ⟨zk, s1, s2, s3, zl, zs, m1, m2, m3, m4, m5, m6, m7, m8, vy⟩).symm.trans HQ.out
      rw [hn] at hq2
      dsimp only at hq2
      obtain ⟨c3, hc3⟩ : ∃ c, Hid (tB t1 t2 t3 s1 s2 s3 = c) := ⟨_, Lib.hid rfl⟩
      obtain ⟨c5, hc5⟩ : ∃ c, Hid (decide (l = zl) = c) := ⟨_, Lib.hid rfl⟩
      obtain ⟨c6, hc6⟩ : ∃ c, Hid (decide (xs = zs) = c) := ⟨_, Lib.hid rfl⟩
      rw [hc3.out, hc5.out, hc6.out] at hq2
      have hres : Hid (q = (true && (k == zk && (c3 && (y == vy && (c5 && c6)))))) := Lib.hid hq2.symm
      have HX1' := Lib.hid (HX1.out.below (below2 hb0.out HB.out))
      have HX2' := Lib.hid (HX2.out.below (below2 hb0.out HB.out))
      have HZ1' := Lib.hid (HZ1.out.below (below2 hb0.out HB.out))
      have HZ2' := Lib.hid (HZ2.out.below (below2 hb0.out HB.out))
      have ht := tid_eq t1 t2 t3 s1 s2 s3
      rw [hc3.out] at ht
      have htg := tid_guard
      obtain ⟨hA1, hA2⟩ := HA.out wr HB.out
      obtain ⟨f0, f1, f2, f3, f4, f5, f6, f7, f8, f9, f10, f11, f12, f13, f14⟩ := rc_f hA1
      obtain ⟨e0, e1, e2, e3, e4, e5, e6, e7, e8, e9, e10, e11, e12, e13, e14⟩ := rc_f hA2
      dsimp only at f0 f1 f2 f3 f4 f5 f6 f7 f8 f9 f10 f11 f12 f13 f14 e0 e1 e2 e3 e4 e5 e6 e7 e8 e9 e10 e11 e12 e13 e14
      clear hn hq2 hA1 hA2 f6 f7 f8 f9 f10 f11 f12 f13 e6 e7 e8 e9 e10 e11 e12 e13 hb'
      by_cases hk : k = zk
      case neg =>
        have hr2 : Hid (q = false) := Lib.hid (by rw [hres.out]; simp [hk])
        go_wp2
        go_ret
        exact ⟨retbf hr2.out, below2 hb0.out HB.out⟩
      subst hk
      have hres2 : Hid (q = (c3 && (y == vy && (c5 && c6)))) := Lib.hid (by rw [hres.out]; simp)
      clear hres
      cases c3
      · go_wp2
        go_ret
        exact ⟨retbf hres2.out, below2 hb0.out HB.out⟩
      cases y
      · cases vy
        · have hres3 : Hid (q = (c5 && c6)) := Lib.hid (by rw [hres2.out]; rfl)
          go_wp2_with fail
          refine (same_itemsG iA jA ni mi ic jc l zl wr HX1'.out HZ1'.out c5 hc5.out).mono ?_
          rintro e w2 ⟨rfl, hb2⟩
          have HB2 := Lib.hid (below2 HB.out hb2)
          have HX2'' := Lib.hid (HX2'.out.below hb2)
          have HZ2'' := Lib.hid (HZ2'.out.below hb2)
          clear hb2 f0 f1 f2 f3 f4 f5 f14 e0 e1 e2 e3 e4 e5 e14
          obtain ⟨hA1, hA2⟩ := HA.out w2 HB2.out
          have f5 := (rc_f hA1).2.2.2.2.2.1
          have e5 := (rc_f hA2).2.2.2.2.2.1
          clear hA1 hA2
          cases c5
          · go_wp2
            go_ret
            exact ⟨retbf hres3.out, below2 hb0.out HB2.out⟩
          · have hres4 : Hid (q = c6) := Lib.hid (by rw [hres3.out]; rfl)
            go_wp2_with fail
            refine (same_nodesG nA mA nn mn nc mc xs zs w2 HX2''.out HZ2''.out c6 hc6.out).mono ?_
            rintro e w3 ⟨rfl, hb3⟩
            go_wp2
            go_ret
            exact ⟨retv (congrArg Value.bool hres4.out.symm), below2 hb0.out (below2 HB2.out hb3)⟩
        · have hr2 : Hid (q = false) := Lib.hid (by rw [hres2.out]; rfl)
          go_wp2
          go_ret
          exact ⟨retbf hr2.out, below2 hb0.out HB.out⟩
      · cases vy
        · have hr2 : Hid (q = false) := Lib.hid (by rw [hres2.out]; rfl)
          go_wp2
          go_ret
          exact ⟨retbf hr2.out, below2 hb0.out HB.out⟩
        · have hres3 : Hid (q = (c5 && c6)) := Lib.hid (by rw [hres2.out]; rfl)
          go_wp2_with fail
          refine (same_itemsG iA jA ni mi ic jc l zl wr HX1'.out HZ1'.out c5 hc5.out).mono ?_
          rintro e w2 ⟨rfl, hb2⟩
          have HB2 := Lib.hid (below2 HB.out hb2)
          have HX2'' := Lib.hid (HX2'.out.below hb2)
          have HZ2'' := Lib.hid (HZ2'.out.below hb2)
          clear hb2 f0 f1 f2 f3 f4 f5 f14 e0 e1 e2 e3 e4 e5 e14
          obtain ⟨hA1, hA2⟩ := HA.out w2 HB2.out
          have f5 := (rc_f hA1).2.2.2.2.2.1
          have e5 := (rc_f hA2).2.2.2.2.2.1
          clear hA1 hA2
          cases c5
          · go_wp2
            go_ret
            exact ⟨retbf hres3.out, below2 hb0.out HB2.out⟩
          · have hres4 : Hid (q = c6) := Lib.hid (by rw [hres3.out]; rfl)
            go_wp2_with fail
            refine (same_nodesG nA mA nn mn nc mc xs zs w2 HX2''.out HZ2''.out c6 hc6.out).mono ?_
            rintro e w3 ⟨rfl, hb3⟩
            go_wp2
            go_ret
            exact ⟨retv (congrArg Value.bool hres4.out.symm), below2 hb0.out (below2 HB2.out hb3)⟩
end Go.Proofs.Ytfpocddpnoighaa.Rc

/- record: the document's example; a record as an argument; the law RecordUnlike. -/
namespace Go.Proofs.Ytfpocddpnoighaa.Rc
open Go.RowKit Go.Proofs.Ytfpocddpnoighaa.L Go.Proofs.Ytfpocddpnoighaa.O Go.Proofs.Ytfpocddpnoighaa.A Go.Proofs.Ytfpocddpnoighaa.R Go.Proofs.Ytfpocddpnoighaa.S Go.Proofs.Ytfpocddpnoighaa.T Go.Proofs.Ytfpocddpnoighaa.E Go.Proofs.Ytfpocddpnoighaa.F Go.Proofs.Ytfpocddpnoighaa.It
open Go.Proofs.Ytfpocddpnoighaa.Wr hiding str str_size str_list
set_option linter.unusedVariables false
set_option linter.unusedSimpArgs false

theorem ims_nil (w : World) (A : Option Addr) : Ims w A 0 [] := ⟨⟨rfl, by omega, by simp, fun h => absurd h (by omega)⟩, by simp⟩
set_option maxHeartbeats 4000000 in
set_option maxRecDepth 100000 in
theorem awake_rc (w : World) : Calls Try.prog 56 #[] w fun e w' => e = .returned (.bool true) ∧ Below w.heap.size w w' := by
  have HC := Lib.hid (encode_any ⟨7, 1, 1, 1, [], [], 0, 0, 0, 0, 0, 0, 0, 0, false⟩ none 0 0 none 0 0 w (ims_nil w none) (rd_nil w none))
  have hs : encS ⟨7, 1, 1, 1, [], [], 0, 0, 0, 0, 0, 0, 0, 0, false⟩ = ⟨#[7, 0, 0, 0, 0, 0, 0, 0, 1, 0, 0, 0, 0, 0, 0, 0, 1, 0, 0, 0, 0, 0, 0, 0, 1]⟩ := by kernel_rfl
  have he : encE ⟨7, 1, 1, 1, [], [], 0, 0, 0, 0, 0, 0, 0, 0, false⟩ = 0 := by kernel_rfl
  rw [hs, he] at HC
  clear hs he
  go_enter Try.func56, Try.ntmps56
  go_wp2_with fail
  refine HC.out.mono ?_
  rintro e w1 ⟨rfl, hb1⟩
  go_wp2
  go_ret
  exact ⟨rfl, hb1⟩
/-- a record that is an argument. -/
structure Ra where
  x : Rc
  i : Sl Im
  n : Sl Int
def encRa (r : Ra) : List Value := [.int .i64 r.x.k, .int .i64 r.x.t1, .int .i64 r.x.t2, .int .i64 r.x.t3, .slice r.i.A r.i.n r.i.c, .slice r.n.A r.n.n r.n.c, .int .i64 r.x.n1, .int .i64 r.x.n2, .int .i64 r.x.n3, .int .i64 r.x.n4, .int .i64 r.x.n5, .int .i64 r.x.n6, .int .i64 r.x.n7, .int .i64 r.x.n8, .bool r.x.y]
structure GoodRa (W : World) (r : Ra) : Prop where
  l : r.x.l = r.i.xs
  xs : r.x.xs = r.n.xs
  good : goodRc r.x
  i : SlOk W 5 40 encIm goodIm r.i
  n : SlOk W 1 8 intE intG r.n
set_option maxRecDepth 100000 in
theorem opens_ra (W : World) : Opens Try.prog W 89 encRa (GoodRa W) :=
  Opens.as (opens_struct (w := W) Try.underlying89 (by kernel_rfl)
    (opens_fc (off' := 1) rfl (by kernel_rfl) (opens_int Try.underlying3) (opens_fc (off' := 4) rfl (by kernel_rfl) (opens_td W) (opens_fc (off' := 5) rfl (by kernel_rfl) (opens_ims W) (opens_fc (off' := 6) rfl (by kernel_rfl) (opens_ints W)
    (opens_fc (off' := 7) rfl (by kernel_rfl) (opens_int Try.underlying3) (opens_fc (off' := 8) rfl (by kernel_rfl) (opens_int Try.underlying3) (opens_fc (off' := 9) rfl (by kernel_rfl) (opens_int Try.underlying3) (opens_fc (off' := 10) rfl (by kernel_rfl) (opens_int Try.underlying3) (opens_fc (off' := 11) rfl (by kernel_rfl) (opens_int Try.underlying3) (opens_fc (off' := 12) rfl (by kernel_rfl) (opens_int Try.underlying3) (opens_fc (off' := 13) rfl (by kernel_rfl) (opens_int Try.underlying3) (opens_fc (off' := 14) rfl (by kernel_rfl) (opens_int Try.underlying3) (opens_fc (off' := 15) rfl (by kernel_rfl) (opens_bool Try.underlying4) (opens_f0 15)))))))))))))))
    encRa (GoodRa W) (fun x => ⟨⟨x.1, x.2.1.a, x.2.1.b, x.2.1.c, x.2.2.1.xs, x.2.2.2.1.xs, x.2.2.2.2.1, x.2.2.2.2.2.1, x.2.2.2.2.2.2.1, x.2.2.2.2.2.2.2.1, x.2.2.2.2.2.2.2.2.1, x.2.2.2.2.2.2.2.2.2.1, x.2.2.2.2.2.2.2.2.2.2.1, x.2.2.2.2.2.2.2.2.2.2.2.1, x.2.2.2.2.2.2.2.2.2.2.2.2.1⟩, x.2.2.1, x.2.2.2.1⟩)
    (fun _ => rfl) (fun x h => ⟨rfl, rfl, ⟨i64_range h.1, h.2.1.1, h.2.1.2.1, h.2.1.2.2, fun z hz => (h.2.2.1.2.2.2.2.2.1 z hz).1, fun z hz => i64_range (h.2.2.2.1.2.2.2.2.2.1 z hz).1, i64_range h.2.2.2.2.1, i64_range h.2.2.2.2.2.1, i64_range h.2.2.2.2.2.2.1, i64_range h.2.2.2.2.2.2.2.1, i64_range h.2.2.2.2.2.2.2.2.1, i64_range h.2.2.2.2.2.2.2.2.2.1, i64_range h.2.2.2.2.2.2.2.2.2.2.1, i64_range h.2.2.2.2.2.2.2.2.2.2.2.1⟩, h.2.2.1, h.2.2.2.1⟩)
end Go.Proofs.Ytfpocddpnoighaa.Rc

/- record: the law RecordUnlike. -/
namespace Go.Proofs.Ytfpocddpnoighaa.Rc
open Go.RowKit Go.Proofs.Ytfpocddpnoighaa.L Go.Proofs.Ytfpocddpnoighaa.O Go.Proofs.Ytfpocddpnoighaa.A Go.Proofs.Ytfpocddpnoighaa.R Go.Proofs.Ytfpocddpnoighaa.S Go.Proofs.Ytfpocddpnoighaa.T Go.Proofs.Ytfpocddpnoighaa.E Go.Proofs.Ytfpocddpnoighaa.F Go.Proofs.Ytfpocddpnoighaa.It
open Go.Proofs.Ytfpocddpnoighaa.Wr hiding str str_size str_list
set_option linter.unusedVariables false
set_option linter.unusedSimpArgs false

theorem encS_yes {x : Rc} (h : rightB x = true) : encS x = str (encB x) := by unfold encS; rw [h]; rfl
theorem encE_yes {x : Rc} (h : rightB x = true) : encE x = 0 := by unfold encE; rw [h]; rfl
theorem encE_no {x : Rc} (h : rightB x = false) : encE x = 1 := by unfold encE; rw [h]; rfl
set_option maxHeartbeats 8000000 in
set_option maxRecDepth 100000 in
theorem unlike_walk (w : World) (x : Rc) (iA : Option Addr) (ni ic : Nat) (nA : Option Addr) (nn nc : Nat) (z : Rc) (jA : Option Addr) (mi jc : Nat) (mA : Option Addr) (mn mc : Nat) (gx : goodRc x) (gz : goodRc z) (hx1 : Ims w iA ni x.l) (hx2 : Rd w nA nn (x.xs.map (Value.int .i64))) (hz1 : Ims w jA mi z.l) (hz2 : Rd w mA mn (z.xs.map (Value.int .i64))) :
    Calls Try.prog 12 #[.agg (rcA x (.slice iA ni ic) (.slice nA nn nc)), .agg (rcA z (.slice jA mi jc) (.slice mA mn mc))] w fun e w' => e = .returned (.bool true) ∧ Below w.heap.size w w' := by
  have hni9 := hx1.rd.2.1
  have hnn9 := hx2.2.1
  have hmi9 := hz1.rd.2.1
  have hmn9 := hz2.2.1
  have HX1 := Lib.hid hx1
  have HX2 := Lib.hid hx2
  have HZ1 := Lib.hid hz1
  have HZ2 := Lib.hid hz2
  have HGX := Lib.hid gx
  have HGZ := Lib.hid gz
  obtain ⟨q, hq⟩ : ∃ q, Hid (decide (x = z) = q) := ⟨_, Lib.hid rfl⟩
  have HYY : Hid (rightB x = true → rightB z = true → q = true → encS x = encS z) := Lib.hid (fun _ _ h => by
    rw [← hq.out, decide_eq_true_iff] at h; rw [h])
  have HYN : Hid (rightB x = true → rightB z = true → q = false → ¬ encS x = encS z) := Lib.hid (fun h1 h2 h he => by
    rw [← hq.out, decide_eq_false_iff_not] at h
    rw [encS_yes h1, encS_yes h2] at he
    exact h (enc_inj x z HGX.out HGZ.out h1 h2 he))
  clear hx1 hx2 hz1 hz2 gx gz
  obtain ⟨g, hg⟩ : ∃ g, Hid (w.heap.size = g) := ⟨_, Lib.hid rfl⟩
  obtain ⟨W0, hW0⟩ : ∃ W0, Hid ((w.alloc (.cells (rcA x (.slice iA ni ic) (.slice nA nn nc)) 89)).alloc (.cells (rcA z (.slice jA mi jc) (.slice mA mn mc)) 89) = W0) := ⟨_, Lib.hid rfl⟩
  have hb0 : Hid (Below w.heap.size w W0) := Lib.hid (by rw [← hW0.out]; exact below2 (below_alloc _ _) (below_alloc _ _))
  have HA : Hid (∀ W, Below W0.heap.size W0 W → RcAt g x (.slice iA ni ic) (.slice nA nn nc) W ∧ RcAt (g + 1) z (.slice jA mi jc) (.slice mA mn mc) W) := Lib.hid (by
    intro W hb
    rw [← hg.out]
    refine ⟨RcAt.below ?_ hb, RcAt.below ?_ hb⟩
    · rw [← hW0.out]; exact (rcAt_new _ _ _ _).below (below_alloc _ _)
    · rw [← hW0.out]; exact heap_alloc2_new _ _ _)
  have HX1' : Hid (∀ W, Below W0.heap.size W0 W → Ims W iA ni x.l ∧ Rd W nA nn (x.xs.map (Value.int .i64)) ∧ Ims W jA mi z.l ∧ Rd W mA mn (z.xs.map (Value.int .i64))) := Lib.hid fun W hb =>
    have hb2 := below2 hb0.out hb
    ⟨HX1.out.below hb2, HX2.out.below hb2, HZ1.out.below hb2, HZ2.out.below hb2⟩
  obtain ⟨ya, hya⟩ : ∃ s, Hid (encS x = s) := ⟨_, Lib.hid rfl⟩
  obtain ⟨yb, hyb⟩ : ∃ s, Hid (encS z = s) := ⟨_, Lib.hid rfl⟩
  obtain ⟨c1, hc1⟩ : ∃ s, Hid (encE x = s) := ⟨_, Lib.hid rfl⟩
  obtain ⟨c2, hc2⟩ : ∃ s, Hid (encE z = s) := ⟨_, Lib.hid rfl⟩
  have HEX : Hid (∀ W, Below W0.heap.size W0 W → Calls Try.prog 57 #[.agg (rcA x (.slice iA ni ic) (.slice nA nn nc))] W fun e w' => e = .returned (.tuple #[.string ya, .int .i64 c1]) ∧ Below W.heap.size W w') := Lib.hid fun W hb => by
    rw [← hya.out, ← hc1.out]; exact encode_any x _ _ _ _ _ _ W (HX1'.out W hb).1 (HX1'.out W hb).2.1
  have HEZ : Hid (∀ W, Below W0.heap.size W0 W → Calls Try.prog 57 #[.agg (rcA z (.slice jA mi jc) (.slice mA mn mc))] W fun e w' => e = .returned (.tuple #[.string yb, .int .i64 c2]) ∧ Below W.heap.size W w') := Lib.hid fun W hb => by
    rw [← hyb.out, ← hc2.out]; exact encode_any z _ _ _ _ _ _ W (HX1'.out W hb).2.2.1 (HX1'.out W hb).2.2.2
  have HPX : Hid (∀ W, Calls Try.prog 59 #[.agg (rcA x (.slice iA ni ic) (.slice nA nn nc))] W fun e w' => e = .returned (.agg (rcA x (.slice iA ni ic) (.slice nA nn nc))) ∧ Below W.heap.size W w') := Lib.hid fun W => plain_ref x _ _ _ _ _ _ W
  have HPZ : Hid (∀ W, Calls Try.prog 59 #[.agg (rcA z (.slice jA mi jc) (.slice mA mn mc))] W fun e w' => e = .returned (.agg (rcA z (.slice jA mi jc) (.slice mA mn mc))) ∧ Below W.heap.size W w') := Lib.hid fun W => plain_ref z _ _ _ _ _ _ W
  have HSM : Hid (∀ W, Below W0.heap.size W0 W → Calls Try.prog 58 #[.agg (rcA x (.slice iA ni ic) (.slice nA nn nc)), .agg (rcA z (.slice jA mi jc) (.slice mA mn mc))] W fun e w' => e = .returned (.bool q) ∧ Below W.heap.size W w') := Lib.hid fun W hb =>
    same_any x _ _ _ _ _ _ z _ _ _ _ _ _ W (HX1'.out W hb).1 (HX1'.out W hb).2.1 (HX1'.out W hb).2.2.1 (HX1'.out W hb).2.2.2 q hq.out
  rw [hya.out, hyb.out] at HYY HYN
  obtain ⟨r1, hr1⟩ : ∃ r, Hid (rightB x = r) := ⟨_, Lib.hid rfl⟩
  obtain ⟨r2, hr2⟩ : ∃ r, Hid (rightB z = r) := ⟨_, Lib.hid rfl⟩
  have hcr1 : Hid ((r1 = false → c1 = 1) ∧ (r1 = true → c1 = 0)) := Lib.hid ⟨fun h => by rw [← hc1.out]; exact encE_no (hr1.out.trans h), fun h => by rw [← hc1.out]; exact encE_yes (hr1.out.trans h)⟩
  have hcr2 : Hid ((r2 = false → c2 = 1) ∧ (r2 = true → c2 = 0)) := Lib.hid ⟨fun h => by rw [← hc2.out]; exact encE_no (hr2.out.trans h), fun h => by rw [← hc2.out]; exact encE_yes (hr2.out.trans h)⟩
  rw [hr1.out, hr2.out] at HYY HYN
  clear HX1' HX1 HX2 HZ1 HZ2 HGX HGZ hya hyb hc1 hc2 hr1 hr2 hq
  obtain ⟨k, t1, t2, t3, l, xs, n1, n2, n3, n4, n5, n6, n7, n8, y⟩ := x
  obtain ⟨zk, s1, s2, s3, zl, zs, m1, m2, m3, m4, m5, m6, m7, m8, vy⟩ := z
  dsimp only [rcA] at hW0 HA HEX HEZ HPX HPZ HSM
  go_enter Try.func12, Try.ntmps12
  go_wp2_with fail
  rw [hW0.out, hg.out]
  refine (awake_rc W0).mono ?_
  rintro e w1 ⟨rfl, hb1⟩
  have HB1 := Lib.hid hb1
  clear hb1
  obtain ⟨f0, f1, f2, f3, f4, f5, f6, f7, f8, f9, f10, f11, f12, f13, f14⟩ := rc_f (HA.out w1 HB1.out).1
  obtain ⟨e0, e1, e2, e3, e4, e5, e6, e7, e8, e9, e10, e11, e12, e13, e14⟩ := rc_f (HA.out w1 HB1.out).2
  dsimp only at f0 f1 f2 f3 f4 f5 f6 f7 f8 f9 f10 f11 f12 f13 f14 e0 e1 e2 e3 e4 e5 e6 e7 e8 e9 e10 e11 e12 e13 e14
  by_cases u1 : 60 < ni
  · go_wp2
    go_ret
    exact ⟨rfl, below2 hb0.out HB1.out⟩
  by_cases u2 : 60 < nn
  · go_wp2
    go_ret
    exact ⟨rfl, below2 hb0.out HB1.out⟩
  by_cases u3 : 60 < mi
  · go_wp2
    go_ret
    exact ⟨rfl, below2 hb0.out HB1.out⟩
  by_cases u4 : 60 < mn
  · go_wp2
    go_ret
    exact ⟨rfl, below2 hb0.out HB1.out⟩
  go_wp2_with fail
  refine (HEX.out w1 HB1.out).mono ?_
  rintro e w2 ⟨rfl, hb2⟩
  have HB2 := Lib.hid (below2 HB1.out hb2)
  clear hb2 f0 f1 f2 f3 f4 f5 f6 f7 f8 f9 f10 f11 f12 f13 f14 e0 e1 e2 e3 e4 e5 e6 e7 e8 e9 e10 e11 e12 e13 e14
  obtain ⟨e0, e1, e2, e3, e4, e5, e6, e7, e8, e9, e10, e11, e12, e13, e14⟩ := rc_f (HA.out w2 HB2.out).2
  dsimp only at e0 e1 e2 e3 e4 e5 e6 e7 e8 e9 e10 e11 e12 e13 e14
  go_wp2_with fail
  refine (HEZ.out w2 HB2.out).mono ?_
  rintro e w3 ⟨rfl, hb3⟩
  have HB3 := Lib.hid (below2 HB2.out hb3)
  clear hb3 u1 u2 u3 u4 e0 e1 e2 e3 e4 e5 e6 e7 e8 e9 e10 e11 e12 e13 e14
  cases r1
  · obtain rfl := hcr1.out.1 rfl
    go_wp2_with fail
    go_quiet (fail)
    go_wp2
    go_ret
    exact ⟨rfl, below2 hb0.out (below2 HB3.out (below_drewN _ _))⟩
  obtain rfl := hcr1.out.2 rfl
  cases r2
  · obtain rfl := hcr2.out.1 rfl
    go_wp2_with fail
    go_quiet (fail)
    go_wp2
    go_ret
    exact ⟨rfl, below2 hb0.out (below2 HB3.out (below_drewN _ _))⟩
  obtain rfl := hcr2.out.2 rfl
  have hS0 : Below W0.heap.size W0 w3.drew := below2 HB3.out (below_drew (Below.refl _ _))
  cases q
  · have HN := Lib.hid (HYN.out rfl rfl rfl)
    have HN2 : Hid (¬ ya.toList = yb.toList) := Lib.hid (fun h => HN.out (by
      have := congrArg List.toArray h
      rw [ByteArray.toList_eq, ByteArray.toList_eq] at this
      simp at this
      exact ByteArray.ext this))
    go_wp2_with fail
    refine wp_region_one (fun W => Below W0.heap.size W0 W) (fun u v => Below u.heap.size u v) (fun a i => match i with
        | 0 => (fun v _ => v = .int .i64 0)
        | 1 => (fun v _ => v = .bool false)
        | 2 => (fun v _ => v = .bool false)
        | 3 => (fun v _ => v = .int .i64 0)
        | 4 => (fun v _ => v = .bool false)
        | 5 => (fun v _ => v = .bool false)
        | 6 => (fun v _ => v = .bool false)
        | 7 => (fun v _ => v = .string ya)
        | 8 => (fun v _ => v = .string yb)
        | 9 => (fun v _ => v = .bool false)
        | 10 => (fun v _ => v = .agg #[.int .i64 k, .int .i64 t1, .int .i64 t2, .int .i64 t3, .slice iA ni ic, .slice nA nn nc, .int .i64 n1, .int .i64 n2, .int .i64 n3, .int .i64 n4, .int .i64 n5, .int .i64 n6, .int .i64 n7, .int .i64 n8, .bool y])
        | 11 => (fun v _ => v = .agg #[.int .i64 k, .int .i64 t1, .int .i64 t2, .int .i64 t3, .slice iA ni ic, .slice nA nn nc, .int .i64 n1, .int .i64 n2, .int .i64 n3, .int .i64 n4, .int .i64 n5, .int .i64 n6, .int .i64 n7, .int .i64 n8, .bool y])
        | 12 => (fun v _ => v = .agg #[.int .i64 zk, .int .i64 s1, .int .i64 s2, .int .i64 s3, .slice jA mi jc, .slice mA mn mc, .int .i64 m1, .int .i64 m2, .int .i64 m3, .int .i64 m4, .int .i64 m5, .int .i64 m6, .int .i64 m7, .int .i64 m8, .bool vy])
        | 13 => (fun v _ => v = .agg #[.int .i64 zk, .int .i64 s1, .int .i64 s2, .int .i64 s3, .slice jA mi jc, .slice mA mn mc, .int .i64 m1, .int .i64 m2, .int .i64 m3, .int .i64 m4, .int .i64 m5, .int .i64 m6, .int .i64 m7, .int .i64 m8, .bool vy])
        | 14 => (fun v _ => v = .bool false)
        | 15 => (fun v _ => v = .bool true)
        | 16 => (fun v _ => v = .bool true)
        | 17 => (fun v _ => v = .bool true)
        | _ => (fun _ _ => True)) #[0, 1, 3, 7, 15, 31, 63, 127, 127, 511, 127, 1151, 127, 7295, 15487, 32767, 65535, 131071] #[0, 1, 2, 4, 12, 20, 32, 64, 64, 448, 64, 1088, 64, 4160, 10304, 16960, 32832, 65536] 262143 (by kernel_rfl) 18 rfl (fun m hm => by subst hm; kernel_rfl) (by kernel_rfl) (fun w => Below.refl _ w) (fun u v w h1 h2 => below2 h1 h2) ?_ (hS0) ?_ ?_
    · intro i hi
      rcases (by omega : i = 0 ∨ i = 1 ∨ i = 2 ∨ i = 3 ∨ i = 4 ∨ i = 5 ∨ i = 6 ∨ i = 7 ∨ i = 8 ∨ i = 9 ∨ i = 10 ∨ i = 11 ∨ i = 12 ∨ i = 13 ∨ i = 14 ∨ i = 15 ∨ i = 16 ∨ i = 17) with rfl | rfl | rfl | rfl | rfl | rfl | rfl | rfl | rfl | rfl | rfl | rfl | rfl | rfl | rfl | rfl | rfl | rfl
      · exact fun v w w' h hr => by exact h
      · exact fun v w w' h hr => by exact h
      · exact fun v w w' h hr => by exact h
      · exact fun v w w' h hr => by exact h
      · exact fun v w w' h hr => by exact h
      · exact fun v w w' h hr => by exact h
      · exact fun v w w' h hr => by exact h
      · exact fun v w w' h hr => by exact h
      · exact fun v w w' h hr => by exact h
      · exact fun v w w' h hr => by exact h
      · exact fun v w w' h hr => by exact h
      · exact fun v w w' h hr => by exact h
      · exact fun v w w' h hr => by exact h
      · exact fun v w w' h hr => by exact h
      · exact fun v w w' h hr => by exact h
      · exact fun v w w' h hr => by exact h
      · exact fun v w w' h hr => by exact h
      · exact fun v w w' h hr => by exact h
    · intro i hi
      rcases (by omega : i = 0 ∨ i = 1 ∨ i = 2 ∨ i = 3 ∨ i = 4 ∨ i = 5 ∨ i = 6 ∨ i = 7 ∨ i = 8 ∨ i = 9 ∨ i = 10 ∨ i = 11 ∨ i = 12 ∨ i = 13 ∨ i = 14 ∨ i = 15 ∨ i = 16 ∨ i = 17) with rfl | rfl | rfl | rfl | rfl | rfl | rfl | rfl | rfl | rfl | rfl | rfl | rfl | rfl | rfl | rfl | rfl | rfl
      · -- 0: Op.move (Operand.tmp 6)
        intro l hl vs W hS hR hp
        obtain rfl : l = [] := hl.symm.trans (by kernel_rfl)
        clear hp hl
        refine opgoal (_) (some 43) rfl rfl fun K hK => ?_
        refine Runs.mk ?_
        simp only [putAll]
        go_simp
        refine hK _ _ ?_ hS ((fun w => Below.refl _ w) W) _ rfl rfl
        first | rfl | go_simp | simp
      · -- 1: Op.binOp BinOp.neq 40 (Operand.tmp 43) (Operand.const (Value.int IntKind.i64 0)) 40
        intro l hl vs W hS hR hp
        obtain rfl : l = [(0, 43)] := hl.symm.trans (by kernel_rfl)
        have p0 : vs 0 = _ := hp 0 (by decide) (by decide)
        clear hp hl
        refine opgoal (_) (some 44) rfl rfl fun K hK => ?_
        refine Runs.mk ?_
        simp only [putAll]
        go_simp
        refine hK _ _ ?_ hS ((fun w => Below.refl _ w) W) _ rfl rfl
        first | rfl | go_simp | simp
      · -- 2: Op.move (Operand.tmp 44)
        intro l hl vs W hS hR hp
        obtain rfl : l = [(0, 43), (1, 44)] := hl.symm.trans (by kernel_rfl)
        have p1 : vs 1 = _ := hp 1 (by decide) (by decide)
        clear hp hl
        refine opgoal (_) (some 45) rfl rfl fun K hK => ?_
        refine Runs.mk ?_
        simp only [putAll]
        go_simp
        refine hK _ _ ?_ hS ((fun w => Below.refl _ w) W) _ rfl rfl
        first | rfl | go_simp | simp
      · -- 3: Op.move (Operand.tmp 8)  [(2, 'false')]
        intro l hl vs W hS hR hp
        obtain rfl : l = [(0, 43), (1, 44), (2, 45)] := hl.symm.trans (by kernel_rfl)
        have p2 : vs 2 = _ := hp 2 (by decide) (by decide)
        clear hp hl
        refine opgoal (_) (some 46) rfl rfl fun K hK => ?_
        refine Runs.mk ?_
        simp only [putAll]
        go_simp
        refine hK _ _ ?_ hS ((fun w => Below.refl _ w) W) _ rfl rfl
        first | rfl | go_simp | simp
      · -- 4: Op.binOp BinOp.neq 40 (Operand.tmp 46) (Operand.const (Value.int IntKind.i64 0)) 40  [(2, 'false')]
        intro l hl vs W hS hR hp
        obtain rfl : l = [(0, 43), (1, 44), (2, 45), (3, 46)] := hl.symm.trans (by kernel_rfl)
        have p2 : vs 2 = _ := hp 2 (by decide) (by decide)
        have p3 : vs 3 = _ := hp 3 (by decide) (by decide)
        clear hp hl
        refine opgoal (_) (some 47) rfl rfl fun K hK => ?_
        refine Runs.mk ?_
        simp only [putAll]
        go_simp
        refine hK _ _ ?_ hS ((fun w => Below.refl _ w) W) _ rfl rfl
        first | rfl | go_simp | simp
      · -- 5: Op.pick (Operand.tmp 45) (Operand.const (Value.bool true)) (Operand.tmp 47)
        intro l hl vs W hS hR hp
        obtain rfl : l = [(0, 43), (1, 44), (2, 45), (3, 46), (4, 47)] := hl.symm.trans (by kernel_rfl)
        have p2 : vs 2 = _ := hp 2 (by decide) (by decide)
        have p4 : vs 4 = _ := hp 4 (by decide) (by decide)
        clear hp hl
        refine opgoal (_) (some 48) rfl rfl fun K hK => ?_
        refine Runs.mk ?_
        simp only [putAll]
        go_simp
        refine hK _ _ ?_ hS ((fun w => Below.refl _ w) W) _ rfl rfl
        first | rfl | go_simp | simp
      · -- 6: Op.move (Operand.tmp 48)
        intro l hl vs W hS hR hp
        obtain rfl : l = [(0, 43), (1, 44), (2, 45), (3, 46), (4, 47), (5, 48)] := hl.symm.trans (by kernel_rfl)
        have p5 : vs 5 = _ := hp 5 (by decide) (by decide)
        clear hp hl
        refine opgoal (_) (some 49) rfl rfl fun K hK => ?_
        refine Runs.mk ?_
        simp only [putAll]
        go_simp
        refine hK _ _ ?_ hS ((fun w => Below.refl _ w) W) _ rfl rfl
        first | rfl | go_simp | simp
      · -- 7: Op.move (Operand.tmp 5)  [(6, 'false')]
        intro l hl vs W hS hR hp
        obtain rfl : l = [(0, 43), (1, 44), (2, 45), (3, 46), (4, 47), (5, 48), (6, 49)] := hl.symm.trans (by kernel_rfl)
        have p6 : vs 6 = _ := hp 6 (by decide) (by decide)
        clear hp hl
        refine opgoal (_) (some 50) rfl rfl fun K hK => ?_
        refine Runs.mk ?_
        simp only [putAll]
        go_simp
        refine hK _ _ ?_ hS ((fun w => Below.refl _ w) W) _ rfl rfl
        first | rfl | go_simp | simp
      · -- 8: Op.move (Operand.tmp 7)  [(6, 'false')]
        intro l hl vs W hS hR hp
        obtain rfl : l = [(0, 43), (1, 44), (2, 45), (3, 46), (4, 47), (5, 48), (6, 49)] := hl.symm.trans (by kernel_rfl)
        have p6 : vs 6 = _ := hp 6 (by decide) (by decide)
        clear hp hl
        refine opgoal (_) (some 51) rfl rfl fun K hK => ?_
        refine Runs.mk ?_
        simp only [putAll]
        go_simp
        refine hK _ _ ?_ hS ((fun w => Below.refl _ w) W) _ rfl rfl
        first | rfl | go_simp | simp
      · -- 9: Op.binOp BinOp.eql 9 (Operand.tmp 50) (Operand.tmp 51) 9  [(6, 'false')]
        intro l hl vs W hS hR hp
        obtain rfl : l = [(0, 43), (1, 44), (2, 45), (3, 46), (4, 47), (5, 48), (6, 49), (7, 50), (8, 51)] := hl.symm.trans (by kernel_rfl)
        have p6 : vs 6 = _ := hp 6 (by decide) (by decide)
        have p7 : vs 7 = _ := hp 7 (by decide) (by decide)
        have p8 : vs 8 = _ := hp 8 (by decide) (by decide)
        clear hp hl
        refine opgoal (_) (some 52) rfl rfl fun K hK => ?_
        refine Runs.mk ?_
        simp only [putAll]
        go_simp
        refine hK _ _ ?_ hS (Below.refl _ W) _ rfl rfl
        have hn1 := HN.out
        have hn2 := HN2.out
        simp [hn1, hn2]
      · -- 10: Op.load 89 (Operand.tmp 2)  [(6, 'false')]
        intro l hl vs W hS hR hp
        obtain rfl : l = [(0, 43), (1, 44), (2, 45), (3, 46), (4, 47), (5, 48), (6, 49)] := hl.symm.trans (by kernel_rfl)
        have p6 : vs 6 = _ := hp 6 (by decide) (by decide)
        clear hp hl
        refine opgoal (_) (some 53) rfl rfl fun K hK => ?_
        obtain ⟨f0, f1, f2, f3, f4, f5, f6, f7, f8, f9, f10, f11, f12, f13, f14⟩ := rc_f (HA.out W hS).1
        dsimp only at f0 f1 f2 f3 f4 f5 f6 f7 f8 f9 f10 f11 f12 f13 f14
        refine Runs.mk ?_
        simp only [putAll]
        go_simp
        refine hK _ _ ?_ hS ((fun w => Below.refl _ w) W) _ rfl rfl
        first | rfl | go_simp | simp
      · -- 11: Op.call { callee := Callee.value (Operand.func 59), args := #[Operand.tmp 53], argTypes := #[89] }  [(6, 'false')]
        intro l hl vs W hS hR hp
        obtain rfl : l = [(0, 43), (1, 44), (2, 45), (3, 46), (4, 47), (5, 48), (6, 49), (10, 53)] := hl.symm.trans (by kernel_rfl)
        have p6 : vs 6 = _ := hp 6 (by decide) (by decide)
        have p10 : vs 10 = _ := hp 10 (by decide) (by decide)
        clear hp hl
        refine opgoal (_) (some 54) rfl rfl fun K hK => ?_
        refine Runs.mk ?_
        simp only [putAll]
        go_simp
        refine (HPX.out W).mono ?_
        rintro e w' ⟨rfl, hb⟩
        go_simp
        exact hK _ _ rfl (below2 hS hb) hb _ rfl rfl
      · -- 12: Op.load 89 (Operand.tmp 3)  [(6, 'false')]
        intro l hl vs W hS hR hp
        obtain rfl : l = [(0, 43), (1, 44), (2, 45), (3, 46), (4, 47), (5, 48), (6, 49)] := hl.symm.trans (by kernel_rfl)
        have p6 : vs 6 = _ := hp 6 (by decide) (by decide)
        clear hp hl
        refine opgoal (_) (some 55) rfl rfl fun K hK => ?_
        obtain ⟨f0, f1, f2, f3, f4, f5, f6, f7, f8, f9, f10, f11, f12, f13, f14⟩ := rc_f (HA.out W hS).2
        dsimp only at f0 f1 f2 f3 f4 f5 f6 f7 f8 f9 f10 f11 f12 f13 f14
        refine Runs.mk ?_
        simp only [putAll]
        go_simp
        refine hK _ _ ?_ hS ((fun w => Below.refl _ w) W) _ rfl rfl
        first | rfl | go_simp | simp
      · -- 13: Op.call { callee := Callee.value (Operand.func 59), args := #[Operand.tmp 55], argTypes := #[89] }  [(6, 'false')]
        intro l hl vs W hS hR hp
        obtain rfl : l = [(0, 43), (1, 44), (2, 45), (3, 46), (4, 47), (5, 48), (6, 49), (10, 53), (11, 54), (12, 55)] := hl.symm.trans (by kernel_rfl)
        have p6 : vs 6 = _ := hp 6 (by decide) (by decide)
        have p12 : vs 12 = _ := hp 12 (by decide) (by decide)
        clear hp hl
        refine opgoal (_) (some 56) rfl rfl fun K hK => ?_
        refine Runs.mk ?_
        simp only [putAll]
        go_simp
        refine (HPZ.out W).mono ?_
        rintro e w' ⟨rfl, hb⟩
        go_simp
        exact hK _ _ rfl (below2 hS hb) hb _ rfl rfl
      · -- 14: Op.call { callee := Callee.value (Operand.func 58), args := #[Operand.tmp 54, Operand.tmp 56], argTypes := #[93, 93] }  [(6, 'false')]
        intro l hl vs W hS hR hp
        obtain rfl : l = [(0, 43), (1, 44), (2, 45), (3, 46), (4, 47), (5, 48), (6, 49), (10, 53), (11, 54), (12, 55), (13, 56)] := hl.symm.trans (by kernel_rfl)
        have p6 : vs 6 = _ := hp 6 (by decide) (by decide)
        have p11 : vs 11 = _ := hp 11 (by decide) (by decide)
        have p13 : vs 13 = _ := hp 13 (by decide) (by decide)
        clear hp hl
        refine opgoal (_) (some 57) rfl rfl fun K hK => ?_
        refine Runs.mk ?_
        simp only [putAll]
        go_simp
        refine (HSM.out W hS).mono ?_
        rintro e w' ⟨rfl, hb⟩
        go_simp
        exact hK _ _ rfl (below2 hS hb) hb _ rfl rfl
      · -- 15: Op.binOp BinOp.eql 4 (Operand.tmp 52) (Operand.tmp 57) 4  [(6, 'false')]
        intro l hl vs W hS hR hp
        obtain rfl : l = [(0, 43), (1, 44), (2, 45), (3, 46), (4, 47), (5, 48), (6, 49), (7, 50), (8, 51), (9, 52), (10, 53), (11, 54), (12, 55), (13, 56), (14, 57)] := hl.symm.trans (by kernel_rfl)
        have p6 : vs 6 = _ := hp 6 (by decide) (by decide)
        have p9 : vs 9 = _ := hp 9 (by decide) (by decide)
        have p14 : vs 14 = _ := hp 14 (by decide) (by decide)
        clear hp hl
        refine opgoal (_) (some 58) rfl rfl fun K hK => ?_
        refine Runs.mk ?_
        simp only [putAll]
        go_simp
        refine hK _ _ ?_ hS ((fun w => Below.refl _ w) W) _ rfl rfl
        first | rfl | go_simp | simp
      · -- 16: Op.pick (Operand.tmp 49) (Operand.const (Value.bool true)) (Operand.tmp 58)
        intro l hl vs W hS hR hp
        obtain rfl : l = [(0, 43), (1, 44), (2, 45), (3, 46), (4, 47), (5, 48), (6, 49), (7, 50), (8, 51), (9, 52), (10, 53), (11, 54), (12, 55), (13, 56), (14, 57), (15, 58)] := hl.symm.trans (by kernel_rfl)
        have p6 : vs 6 = _ := hp 6 (by decide) (by decide)
        have p15 : vs 15 = _ := hp 15 (by decide) (by decide)
        clear hp hl
        refine opgoal (_) (some 59) rfl rfl fun K hK => ?_
        refine Runs.mk ?_
        simp only [putAll]
        go_simp
        refine hK _ _ ?_ hS ((fun w => Below.refl _ w) W) _ rfl rfl
        first | rfl | go_simp | simp
      · -- 17: Op.assign (Operand.tmp 59)
        intro l hl vs W hS hR hp
        obtain rfl : l = [(0, 43), (1, 44), (2, 45), (3, 46), (4, 47), (5, 48), (6, 49), (7, 50), (8, 51), (9, 52), (10, 53), (11, 54), (12, 55), (13, 56), (14, 57), (15, 58), (16, 59)] := hl.symm.trans (by kernel_rfl)
        have p16 : vs 16 = _ := hp 16 (by decide) (by decide)
        clear hp hl
        refine opgoal (_) (some 4) rfl rfl fun K hK => ?_
        refine Runs.mk ?_
        simp only [putAll]
        go_simp
        refine hK _ _ ?_ hS ((fun w => Below.refl _ w) W) _ rfl rfl
        first | rfl | go_simp | simp
    · intro l hl vs W hS hR hp
      obtain rfl : l = [(0, 43), (1, 44), (2, 45), (3, 46), (4, 47), (5, 48), (6, 49), (7, 50), (8, 51), (9, 52), (10, 53), (11, 54), (12, 55), (13, 56), (14, 57), (15, 58), (16, 59), (17, 4)] := hl.symm.trans (by kernel_rfl)
      have p0 : vs 0 = _ := hp 0 (by decide) (by decide)
      have p1 : vs 1 = _ := hp 1 (by decide) (by decide)
      have p2 : vs 2 = _ := hp 2 (by decide) (by decide)
      have p3 : vs 3 = _ := hp 3 (by decide) (by decide)
      have p4 : vs 4 = _ := hp 4 (by decide) (by decide)
      have p5 : vs 5 = _ := hp 5 (by decide) (by decide)
      have p6 : vs 6 = _ := hp 6 (by decide) (by decide)
      have p7 : vs 7 = _ := hp 7 (by decide) (by decide)
      have p8 : vs 8 = _ := hp 8 (by decide) (by decide)
      have p9 : vs 9 = _ := hp 9 (by decide) (by decide)
      have p10 : vs 10 = _ := hp 10 (by decide) (by decide)
      have p11 : vs 11 = _ := hp 11 (by decide) (by decide)
      have p12 : vs 12 = _ := hp 12 (by decide) (by decide)
      have p13 : vs 13 = _ := hp 13 (by decide) (by decide)
      have p14 : vs 14 = _ := hp 14 (by decide) (by decide)
      have p15 : vs 15 = _ := hp 15 (by decide) (by decide)
      have p16 : vs 16 = _ := hp 16 (by decide) (by decide)
      have p17 : vs 17 = _ := hp 17 (by decide) (by decide)
      clear hp hl
      simp only [putAll_mk, setAll, List.setIfInBounds_toArray, List.set_cons_succ, List.set_cons_zero, p0, p1, p2, p3, p4, p5, p6, p7, p8, p9, p10, p11, p12, p13, p14, p15, p16, p17]
      have HS := Lib.hid hS
      clear hS hR hS0
      go_wp2
      go_ret
      exact ⟨rfl, below2 hb0.out HS.out⟩
  · obtain rfl := HYY.out rfl rfl rfl
    go_wp2_with fail
    refine wp_region_one (fun W => Below W0.heap.size W0 W) (fun u v => Below u.heap.size u v) (fun a i => match i with
        | 0 => (fun v _ => v = .int .i64 0)
        | 1 => (fun v _ => v = .bool false)
        | 2 => (fun v _ => v = .bool false)
        | 3 => (fun v _ => v = .int .i64 0)
        | 4 => (fun v _ => v = .bool false)
        | 5 => (fun v _ => v = .bool false)
        | 6 => (fun v _ => v = .bool false)
        | 7 => (fun v _ => v = .string ya)
        | 8 => (fun v _ => v = .string ya)
        | 9 => (fun v _ => v = .bool true)
        | 10 => (fun v _ => v = .agg #[.int .i64 k, .int .i64 t1, .int .i64 t2, .int .i64 t3, .slice iA ni ic, .slice nA nn nc, .int .i64 n1, .int .i64 n2, .int .i64 n3, .int .i64 n4, .int .i64 n5, .int .i64 n6, .int .i64 n7, .int .i64 n8, .bool y])
        | 11 => (fun v _ => v = .agg #[.int .i64 k, .int .i64 t1, .int .i64 t2, .int .i64 t3, .slice iA ni ic, .slice nA nn nc, .int .i64 n1, .int .i64 n2, .int .i64 n3, .int .i64 n4, .int .i64 n5, .int .i64 n6, .int .i64 n7, .int .i64 n8, .bool y])
        | 12 => (fun v _ => v = .agg #[.int .i64 zk, .int .i64 s1, .int .i64 s2, .int .i64 s3, .slice jA mi jc, .slice mA mn mc, .int .i64 m1, .int .i64 m2, .int .i64 m3, .int .i64 m4, .int .i64 m5, .int .i64 m6, .int .i64 m7, .int .i64 m8, .bool vy])
        | 13 => (fun v _ => v = .agg #[.int .i64 zk, .int .i64 s1, .int .i64 s2, .int .i64 s3, .slice jA mi jc, .slice mA mn mc, .int .i64 m1, .int .i64 m2, .int .i64 m3, .int .i64 m4, .int .i64 m5, .int .i64 m6, .int .i64 m7, .int .i64 m8, .bool vy])
        | 14 => (fun v _ => v = .bool true)
        | 15 => (fun v _ => v = .bool true)
        | 16 => (fun v _ => v = .bool true)
        | 17 => (fun v _ => v = .bool true)
        | _ => (fun _ _ => True)) #[0, 1, 3, 7, 15, 31, 63, 127, 127, 511, 127, 1151, 127, 7295, 15487, 32767, 65535, 131071] #[0, 1, 2, 4, 12, 20, 32, 64, 64, 448, 64, 1088, 64, 4160, 10304, 16960, 32832, 65536] 262143 (by kernel_rfl) 18 rfl (fun m hm => by subst hm; kernel_rfl) (by kernel_rfl) (fun w => Below.refl _ w) (fun u v w h1 h2 => below2 h1 h2) ?_ (hS0) ?_ ?_
    · intro i hi
      rcases (by omega : i = 0 ∨ i = 1 ∨ i = 2 ∨ i = 3 ∨ i = 4 ∨ i = 5 ∨ i = 6 ∨ i = 7 ∨ i = 8 ∨ i = 9 ∨ i = 10 ∨ i = 11 ∨ i = 12 ∨ i = 13 ∨ i = 14 ∨ i = 15 ∨ i = 16 ∨ i = 17) with rfl | rfl | rfl | rfl | rfl | rfl | rfl | rfl | rfl | rfl | rfl | rfl | rfl | rfl | rfl | rfl | rfl | rfl
      · exact fun v w w' h hr => by exact h
      · exact fun v w w' h hr => by exact h
      · exact fun v w w' h hr => by exact h
      · exact fun v w w' h hr => by exact h
      · exact fun v w w' h hr => by exact h
      · exact fun v w w' h hr => by exact h
      · exact fun v w w' h hr => by exact h
      · exact fun v w w' h hr => by exact h
      · exact fun v w w' h hr => by exact h
      · exact fun v w w' h hr => by exact h
      · exact fun v w w' h hr => by exact h
      · exact fun v w w' h hr => by exact h
      · exact fun v w w' h hr => by exact h
      · exact fun v w w' h hr => by exact h
      · exact fun v w w' h hr => by exact h
      · exact fun v w w' h hr => by exact h
      · exact fun v w w' h hr => by exact h
      · exact fun v w w' h hr => by exact h
    · intro i hi
      rcases (by omega : i = 0 ∨ i = 1 ∨ i = 2 ∨ i = 3 ∨ i = 4 ∨ i = 5 ∨ i = 6 ∨ i = 7 ∨ i = 8 ∨ i = 9 ∨ i = 10 ∨ i = 11 ∨ i = 12 ∨ i = 13 ∨ i = 14 ∨ i = 15 ∨ i = 16 ∨ i = 17) with rfl | rfl | rfl | rfl | rfl | rfl | rfl | rfl | rfl | rfl | rfl | rfl | rfl | rfl | rfl | rfl | rfl | rfl
      · -- 0: Op.move (Operand.tmp 6)
        intro l hl vs W hS hR hp
        obtain rfl : l = [] := hl.symm.trans (by kernel_rfl)
        clear hp hl
        refine opgoal (_) (some 43) rfl rfl fun K hK => ?_
        refine Runs.mk ?_
        simp only [putAll]
        go_simp
        refine hK _ _ ?_ hS ((fun w => Below.refl _ w) W) _ rfl rfl
        first | rfl | go_simp | simp
      · -- 1: Op.binOp BinOp.neq 40 (Operand.tmp 43) (Operand.const (Value.int IntKind.i64 0)) 40
        intro l hl vs W hS hR hp
        obtain rfl : l = [(0, 43)] := hl.symm.trans (by kernel_rfl)
        have p0 : vs 0 = _ := hp 0 (by decide) (by decide)
        clear hp hl
        refine opgoal (_) (some 44) rfl rfl fun K hK => ?_
        refine Runs.mk ?_
        simp only [putAll]
        go_simp
        refine hK _ _ ?_ hS ((fun w => Below.refl _ w) W) _ rfl rfl
        first | rfl | go_simp | simp
      · -- 2: Op.move (Operand.tmp 44)
        intro l hl vs W hS hR hp
        obtain rfl : l = [(0, 43), (1, 44)] := hl.symm.trans (by kernel_rfl)
        have p1 : vs 1 = _ := hp 1 (by decide) (by decide)
        clear hp hl
        refine opgoal (_) (some 45) rfl rfl fun K hK => ?_
        refine Runs.mk ?_
        simp only [putAll]
        go_simp
        refine hK _ _ ?_ hS ((fun w => Below.refl _ w) W) _ rfl rfl
        first | rfl | go_simp | simp
      · -- 3: Op.move (Operand.tmp 8)  [(2, 'false')]
        intro l hl vs W hS hR hp
        obtain rfl : l = [(0, 43), (1, 44), (2, 45)] := hl.symm.trans (by kernel_rfl)
        have p2 : vs 2 = _ := hp 2 (by decide) (by decide)
        clear hp hl
        refine opgoal (_) (some 46) rfl rfl fun K hK => ?_
        refine Runs.mk ?_
        simp only [putAll]
        go_simp
        refine hK _ _ ?_ hS ((fun w => Below.refl _ w) W) _ rfl rfl
        first | rfl | go_simp | simp
      · -- 4: Op.binOp BinOp.neq 40 (Operand.tmp 46) (Operand.const (Value.int IntKind.i64 0)) 40  [(2, 'false')]
        intro l hl vs W hS hR hp
        obtain rfl : l = [(0, 43), (1, 44), (2, 45), (3, 46)] := hl.symm.trans (by kernel_rfl)
        have p2 : vs 2 = _ := hp 2 (by decide) (by decide)
        have p3 : vs 3 = _ := hp 3 (by decide) (by decide)
        clear hp hl
        refine opgoal (_) (some 47) rfl rfl fun K hK => ?_
        refine Runs.mk ?_
        simp only [putAll]
        go_simp
        refine hK _ _ ?_ hS ((fun w => Below.refl _ w) W) _ rfl rfl
        first | rfl | go_simp | simp
      · -- 5: Op.pick (Operand.tmp 45) (Operand.const (Value.bool true)) (Operand.tmp 47)
        intro l hl vs W hS hR hp
        obtain rfl : l = [(0, 43), (1, 44), (2, 45), (3, 46), (4, 47)] := hl.symm.trans (by kernel_rfl)
        have p2 : vs 2 = _ := hp 2 (by decide) (by decide)
        have p4 : vs 4 = _ := hp 4 (by decide) (by decide)
        clear hp hl
        refine opgoal (_) (some 48) rfl rfl fun K hK => ?_
        refine Runs.mk ?_
        simp only [putAll]
        go_simp
        refine hK _ _ ?_ hS ((fun w => Below.refl _ w) W) _ rfl rfl
        first | rfl | go_simp | simp
      · -- 6: Op.move (Operand.tmp 48)
        intro l hl vs W hS hR hp
        obtain rfl : l = [(0, 43), (1, 44), (2, 45), (3, 46), (4, 47), (5, 48)] := hl.symm.trans (by kernel_rfl)
        have p5 : vs 5 = _ := hp 5 (by decide) (by decide)
        clear hp hl
        refine opgoal (_) (some 49) rfl rfl fun K hK => ?_
        refine Runs.mk ?_
        simp only [putAll]
        go_simp
        refine hK _ _ ?_ hS ((fun w => Below.refl _ w) W) _ rfl rfl
        first | rfl | go_simp | simp
      · -- 7: Op.move (Operand.tmp 5)  [(6, 'false')]
        intro l hl vs W hS hR hp
        obtain rfl : l = [(0, 43), (1, 44), (2, 45), (3, 46), (4, 47), (5, 48), (6, 49)] := hl.symm.trans (by kernel_rfl)
        have p6 : vs 6 = _ := hp 6 (by decide) (by decide)
        clear hp hl
        refine opgoal (_) (some 50) rfl rfl fun K hK => ?_
        refine Runs.mk ?_
        simp only [putAll]
        go_simp
        refine hK _ _ ?_ hS ((fun w => Below.refl _ w) W) _ rfl rfl
        first | rfl | go_simp | simp
      · -- 8: Op.move (Operand.tmp 7)  [(6, 'false')]
        intro l hl vs W hS hR hp
        obtain rfl : l = [(0, 43), (1, 44), (2, 45), (3, 46), (4, 47), (5, 48), (6, 49)] := hl.symm.trans (by kernel_rfl)
        have p6 : vs 6 = _ := hp 6 (by decide) (by decide)
        clear hp hl
        refine opgoal (_) (some 51) rfl rfl fun K hK => ?_
        refine Runs.mk ?_
        simp only [putAll]
        go_simp
        refine hK _ _ ?_ hS ((fun w => Below.refl _ w) W) _ rfl rfl
        first | rfl | go_simp | simp
      · -- 9: Op.binOp BinOp.eql 9 (Operand.tmp 50) (Operand.tmp 51) 9  [(6, 'false')]
        intro l hl vs W hS hR hp
        obtain rfl : l = [(0, 43), (1, 44), (2, 45), (3, 46), (4, 47), (5, 48), (6, 49), (7, 50), (8, 51)] := hl.symm.trans (by kernel_rfl)
        have p6 : vs 6 = _ := hp 6 (by decide) (by decide)
        have p7 : vs 7 = _ := hp 7 (by decide) (by decide)
        have p8 : vs 8 = _ := hp 8 (by decide) (by decide)
        clear hp hl
        refine opgoal (_) (some 52) rfl rfl fun K hK => ?_
        refine Runs.mk ?_
        simp only [putAll]
        go_simp
        refine hK _ _ ?_ hS ((fun w => Below.refl _ w) W) _ rfl rfl
        first | rfl | go_simp | simp
      · -- 10: Op.load 89 (Operand.tmp 2)  [(6, 'false')]
        intro l hl vs W hS hR hp
        obtain rfl : l = [(0, 43), (1, 44), (2, 45), (3, 46), (4, 47), (5, 48), (6, 49)] := hl.symm.trans (by kernel_rfl)
        have p6 : vs 6 = _ := hp 6 (by decide) (by decide)
        clear hp hl
        refine opgoal (_) (some 53) rfl rfl fun K hK => ?_
        obtain ⟨f0, f1, f2, f3, f4, f5, f6, f7, f8, f9, f10, f11, f12, f13, f14⟩ := rc_f (HA.out W hS).1
        dsimp only at f0 f1 f2 f3 f4 f5 f6 f7 f8 f9 f10 f11 f12 f13 f14
        refine Runs.mk ?_
        simp only [putAll]
        go_simp
        refine hK _ _ ?_ hS ((fun w => Below.refl _ w) W) _ rfl rfl
        first | rfl | go_simp | simp
      · -- 11: Op.call { callee := Callee.value (Operand.func 59), args := #[Operand.tmp 53], argTypes := #[89] }  [(6, 'false')]
        intro l hl vs W hS hR hp
        obtain rfl : l = [(0, 43), (1, 44), (2, 45), (3, 46), (4, 47), (5, 48), (6, 49), (10, 53)] := hl.symm.trans (by kernel_rfl)
        have p6 : vs 6 = _ := hp 6 (by decide) (by decide)
        have p10 : vs 10 = _ := hp 10 (by decide) (by decide)
        clear hp hl
        refine opgoal (_) (some 54) rfl rfl fun K hK => ?_
        refine Runs.mk ?_
        simp only [putAll]
        go_simp
        refine (HPX.out W).mono ?_
        rintro e w' ⟨rfl, hb⟩
        go_simp
        exact hK _ _ rfl (below2 hS hb) hb _ rfl rfl
      · -- 12: Op.load 89 (Operand.tmp 3)  [(6, 'false')]
        intro l hl vs W hS hR hp
        obtain rfl : l = [(0, 43), (1, 44), (2, 45), (3, 46), (4, 47), (5, 48), (6, 49)] := hl.symm.trans (by kernel_rfl)
        have p6 : vs 6 = _ := hp 6 (by decide) (by decide)
        clear hp hl
        refine opgoal (_) (some 55) rfl rfl fun K hK => ?_
        obtain ⟨f0, f1, f2, f3, f4, f5, f6, f7, f8, f9, f10, f11, f12, f13, f14⟩ := rc_f (HA.out W hS).2
        dsimp only at f0 f1 f2 f3 f4 f5 f6 f7 f8 f9 f10 f11 f12 f13 f14
        refine Runs.mk ?_
        simp only [putAll]
        go_simp
        refine hK _ _ ?_ hS ((fun w => Below.refl _ w) W) _ rfl rfl
        first | rfl | go_simp | simp
      · -- 13: Op.call { callee := Callee.value (Operand.func 59), args := #[Operand.tmp 55], argTypes := #[89] }  [(6, 'false')]
        intro l hl vs W hS hR hp
        obtain rfl : l = [(0, 43), (1, 44), (2, 45), (3, 46), (4, 47), (5, 48), (6, 49), (10, 53), (11, 54), (12, 55)] := hl.symm.trans (by kernel_rfl)
        have p6 : vs 6 = _ := hp 6 (by decide) (by decide)
        have p12 : vs 12 = _ := hp 12 (by decide) (by decide)
        clear hp hl
        refine opgoal (_) (some 56) rfl rfl fun K hK => ?_
        refine Runs.mk ?_
        simp only [putAll]
        go_simp
        refine (HPZ.out W).mono ?_
        rintro e w' ⟨rfl, hb⟩
        go_simp
        exact hK _ _ rfl (below2 hS hb) hb _ rfl rfl
      · -- 14: Op.call { callee := Callee.value (Operand.func 58), args := #[Operand.tmp 54, Operand.tmp 56], argTypes := #[93, 93] }  [(6, 'false')]
        intro l hl vs W hS hR hp
        obtain rfl : l = [(0, 43), (1, 44), (2, 45), (3, 46), (4, 47), (5, 48), (6, 49), (10, 53), (11, 54), (12, 55), (13, 56)] := hl.symm.trans (by kernel_rfl)
        have p6 : vs 6 = _ := hp 6 (by decide) (by decide)
        have p11 : vs 11 = _ := hp 11 (by decide) (by decide)
        have p13 : vs 13 = _ := hp 13 (by decide) (by decide)
        clear hp hl
        refine opgoal (_) (some 57) rfl rfl fun K hK => ?_
        refine Runs.mk ?_
        simp only [putAll]
        go_simp
        refine (HSM.out W hS).mono ?_
        rintro e w' ⟨rfl, hb⟩
        go_simp
        exact hK _ _ rfl (below2 hS hb) hb _ rfl rfl
      · -- 15: Op.binOp BinOp.eql 4 (Operand.tmp 52) (Operand.tmp 57) 4  [(6, 'false')]
        intro l hl vs W hS hR hp
        obtain rfl : l = [(0, 43), (1, 44), (2, 45), (3, 46), (4, 47), (5, 48), (6, 49), (7, 50), (8, 51), (9, 52), (10, 53), (11, 54), (12, 55), (13, 56), (14, 57)] := hl.symm.trans (by kernel_rfl)
        have p6 : vs 6 = _ := hp 6 (by decide) (by decide)
        have p9 : vs 9 = _ := hp 9 (by decide) (by decide)
        have p14 : vs 14 = _ := hp 14 (by decide) (by decide)
        clear hp hl
        refine opgoal (_) (some 58) rfl rfl fun K hK => ?_
        refine Runs.mk ?_
        simp only [putAll]
        go_simp
        refine hK _ _ ?_ hS ((fun w => Below.refl _ w) W) _ rfl rfl
        first | rfl | go_simp | simp
      · -- 16: Op.pick (Operand.tmp 49) (Operand.const (Value.bool true)) (Operand.tmp 58)
        intro l hl vs W hS hR hp
        obtain rfl : l = [(0, 43), (1, 44), (2, 45), (3, 46), (4, 47), (5, 48), (6, 49), (7, 50), (8, 51), (9, 52), (10, 53), (11, 54), (12, 55), (13, 56), (14, 57), (15, 58)] := hl.symm.trans (by kernel_rfl)
        have p6 : vs 6 = _ := hp 6 (by decide) (by decide)
        have p15 : vs 15 = _ := hp 15 (by decide) (by decide)
        clear hp hl
        refine opgoal (_) (some 59) rfl rfl fun K hK => ?_
        refine Runs.mk ?_
        simp only [putAll]
        go_simp
        refine hK _ _ ?_ hS ((fun w => Below.refl _ w) W) _ rfl rfl
        first | rfl | go_simp | simp
      · -- 17: Op.assign (Operand.tmp 59)
        intro l hl vs W hS hR hp
        obtain rfl : l = [(0, 43), (1, 44), (2, 45), (3, 46), (4, 47), (5, 48), (6, 49), (7, 50), (8, 51), (9, 52), (10, 53), (11, 54), (12, 55), (13, 56), (14, 57), (15, 58), (16, 59)] := hl.symm.trans (by kernel_rfl)
        have p16 : vs 16 = _ := hp 16 (by decide) (by decide)
        clear hp hl
        refine opgoal (_) (some 4) rfl rfl fun K hK => ?_
        refine Runs.mk ?_
        simp only [putAll]
        go_simp
        refine hK _ _ ?_ hS ((fun w => Below.refl _ w) W) _ rfl rfl
        first | rfl | go_simp | simp
    · intro l hl vs W hS hR hp
      obtain rfl : l = [(0, 43), (1, 44), (2, 45), (3, 46), (4, 47), (5, 48), (6, 49), (7, 50), (8, 51), (9, 52), (10, 53), (11, 54), (12, 55), (13, 56), (14, 57), (15, 58), (16, 59), (17, 4)] := hl.symm.trans (by kernel_rfl)
      have p0 : vs 0 = _ := hp 0 (by decide) (by decide)
      have p1 : vs 1 = _ := hp 1 (by decide) (by decide)
      have p2 : vs 2 = _ := hp 2 (by decide) (by decide)
      have p3 : vs 3 = _ := hp 3 (by decide) (by decide)
      have p4 : vs 4 = _ := hp 4 (by decide) (by decide)
      have p5 : vs 5 = _ := hp 5 (by decide) (by decide)
      have p6 : vs 6 = _ := hp 6 (by decide) (by decide)
      have p7 : vs 7 = _ := hp 7 (by decide) (by decide)
      have p8 : vs 8 = _ := hp 8 (by decide) (by decide)
      have p9 : vs 9 = _ := hp 9 (by decide) (by decide)
      have p10 : vs 10 = _ := hp 10 (by decide) (by decide)
      have p11 : vs 11 = _ := hp 11 (by decide) (by decide)
      have p12 : vs 12 = _ := hp 12 (by decide) (by decide)
      have p13 : vs 13 = _ := hp 13 (by decide) (by decide)
      have p14 : vs 14 = _ := hp 14 (by decide) (by decide)
      have p15 : vs 15 = _ := hp 15 (by decide) (by decide)
      have p16 : vs 16 = _ := hp 16 (by decide) (by decide)
      have p17 : vs 17 = _ := hp 17 (by decide) (by decide)
      clear hp hl
      simp only [putAll_mk, setAll, List.setIfInBounds_toArray, List.set_cons_succ, List.set_cons_zero, p0, p1, p2, p3, p4, p5, p6, p7, p8, p9, p10, p11, p12, p13, p14, p15, p16, p17]
      have HS := Lib.hid hS
      clear hS hR hS0
      go_wp2
      go_ret
      exact ⟨rfl, below2 hb0.out HS.out⟩
theorem unlike_row (w : World) (r s : Ra) (hr : GoodRa w r) (hs : GoodRa w s) :
    Calls Try.prog 12 #[.agg (encRa r).toArray, .agg (encRa s).toArray] w fun e w' => e = .returned (.bool true) ∧ Below w.heap.size w w' :=
  unlike_walk w r.x _ _ _ _ _ _ s.x _ _ _ _ _ _ hr.good hs.good (by rw [hr.l]; exact ims_of hr.i) (by rw [hr.xs]; exact ints_rd hr.n) (by rw [hs.l]; exact ims_of hs.i) (by rw [hs.xs]; exact ints_rd hs.n)
end Go.Proofs.Ytfpocddpnoighaa.Rc

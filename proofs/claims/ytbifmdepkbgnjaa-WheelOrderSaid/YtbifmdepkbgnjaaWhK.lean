/- wheel: a map from keys to times. -/
import Derived.Test.YtbifmdepkbgnjaaWhP
import Derived.Test.YtbifmdepkbgnjaaK
import Derived.DeepKeys4
namespace Go.Proofs.Ytbifmdepkbgnjaa.Wh
open Go.RowKit Go.Maps Go.Proofs.Ytbifmdepkbgnjaa.L Go.Proofs.Ytbifmdepkbgnjaa.S Go.Proofs.Ytbifmdepkbgnjaa.T
set_option linter.unusedVariables false
set_option linter.unusedSimpArgs false

abbrev MT : TypeId := 26
abbrev IT : TypeId := 3
theorem nat_wf {n : Nat} (h : n < 4611686018427387904) : (Lit.int .i64 (n : Int)).wf = true := by
  simp [Lit.wf, IntKind.min, IntKind.max, IntKind.signed, IntKind.bits]
  omega
def kv (n : Nat) : Value := .agg #[.int .i64 n, .int .i64 0, .int .i64 0, .int .i64 0, .int .i64 0, .int .i64 0]
theorem key_wide : (match Try.prog.underlying KT with | some (.array _ _) | some (.struct _) => true | _ => false) = true := by rw [Try.underlying30]
theorem key_laid : laidOutB Try.prog = true := by kernel_rfl
set_option maxRecDepth 100000 in
theorem key_law : Keyed Try.prog KT := Keyed.of_law (deep_law_laid key_laid (m := 3) (by omega) (of_decide_eq_true (by kernel_rfl)) (by kernel_rfl) key_wide)
theorem key_cells : Try.prog.cellsOf KT = 6 := by kernel_rfl
theorem key_formed {c0 c1 c2 c3 c4 c5 : Value} : (Value.agg #[c0, c1, c2, c3, c4, c5]).formed Try.prog KT = true := by simp [Value.formed, Try.underlying30, key_cells]
theorem key_type : Try.prog.keyType KT = true := by kernel_rfl
theorem key_lits (d : Nat) (n : Nat) (h : n < 4611686018427387904) : Try.prog.keyLits (d + 3) KT [.int .i64 n, .int .i64 0, .int .i64 0, .int .i64 0, .int .i64 0, .int .i64 0] = some [.int .i64 n, .int .i64 0, .int .i64 0, .int .i64 0, .int .i64 0, .int .i64 0] := by
  have hi : Try.prog.underlying 3 = some (.int .i64) := by kernel_rfl
  have hci : Try.prog.cellsOf 3 = 1 := by kernel_rfl
  have hct : Try.prog.cellsOf 28 = 3 := by kernel_rfl
  have h1 : ∀ d z, (Lit.int .i64 z).wf = true → Try.prog.keyLits (d + 1) 3 [.int .i64 z] = some [.int .i64 z] := fun d z hz => by
    unfold Program.keyLits
    rw [hi]
    simp [hz]
  have h0 : (Lit.int .i64 0).wf = true := by decide
  have ht : Try.prog.keyLits (d + 2) 28 [.int .i64 0, .int .i64 0, .int .i64 0] = some [.int .i64 0, .int .i64 0, .int .i64 0] := by
    unfold Program.keyLits
    rw [Try.underlying28]
    simp [hct, hci, h1 d 0 h0]
  unfold Program.keyLits
  rw [Try.underlying30]
  simp [key_cells, hci, hct, h1 (d + 1) n (nat_wf h), h1 (d + 1) 0 h0, ht]
theorem key_key (n : Nat) (h : n < 4611686018427387904) : ∃ kl, Go.keyOf Try.prog KT (kv n) = some kl := by
  unfold Go.keyOf
  rw [Try.underlying30]
  obtain ⟨d, hd⟩ : ∃ d, Try.prog.types.size + 1 = d + 3 := ⟨Try.prog.types.size - 2, by have : 2 ≤ Try.prog.types.size := of_decide_eq_true (by kernel_rfl); omega⟩
  rw [hd]
  simp [key_type, kv, key_formed, Value.cells, key_lits d n h]
theorem m_info : Try.prog.underlying MT = some (.map KT IT) ∧ Try.prog.underlying IT = some (.int .i64) := ⟨by kernel_rfl, by kernel_rfl⟩
theorem m_zero (w : World) : (zeroValue IT).run Try.prog w = .ok (.int .i64 0) w := by kernel_rfl
/-- the map at b holds just the pairs M. -/
def KMap (w : World) (b n : Nat) (M : List Pr) : Prop :=
  ∃ D : DataW Unit, w.ownsMap Try.prog KT (plainElem Try.prog IT) b n D ∧ (∀ x kl, Go.keyOf Try.prog KT (kv x) = some kl → D.atKey kl (.lit (.int .i64 0)) = .lit (.int .i64 (val M x)) ∧ Maps.has D kl = there M x) ∧ Maps.size D = M.length
theorem KMap.keep {S : List Nat} {w w1 : World} {b n : Nat} {M : List Pr} (h : KMap w b n M) (hk : Keep S w w1) (hb : b ∉ S) : KMap w1 b n M := by
  obtain ⟨D, h, r⟩ := h
  have hlt := h.lt
  obtain ⟨es, clock, hb', F, hs, hD⟩ := h
  exact ⟨D, ⟨es, clock, (hk.block b hlt hb).trans hb', F, hs, hD⟩, r⟩
theorem KMap.lt {w : World} {b n : Nat} {M : List Pr} (h : KMap w b n M) : b < w.heap.size := by obtain ⟨D, h, _⟩ := h; exact h.lt
theorem m_made (w : World) : KMap (w.alloc (.map #[] 0)) w.heap.size 0 [] := ⟨.map [], World.ownsMap_made w _ _ _, fun x kl _ => ⟨rfl, rfl⟩, rfl⟩
theorem kv_inj {x y : Nat} {kl : Lit} (hx : Go.keyOf Try.prog KT (kv x) = some kl) (hy : Go.keyOf Try.prog KT (kv y) = some kl) : x = y := by
  have hin := key_law.inj hx hy
  simp only [kv, Value.agg.injEq, Array.mk.injEq, List.cons.injEq, Value.int.injEq, true_and, and_true] at hin
  omega
theorem m_look {w : World} {b n : Nat} {M : List Pr} (h : KMap w b n M) (x : Nat) (hx : x < 4611686018427387904) : (Instr.lookup MT (.map (some b)) (kv x) false).run Try.prog w = .ok (.int .i64 (val M x)) w := by
  obtain ⟨D, h, hat, -⟩ := h
  obtain ⟨kl, hkl⟩ := key_key x hx
  obtain ⟨v, ps, hrun, hv⟩ := h.lookup key_law m_info.1 (m_zero w) (plainElem_int m_info.2 (by decide)) hkl
  rw [(hat x kl hkl).1] at hv
  obtain ⟨c, rfl, hc, -⟩ := plainElem_int_inv m_info.2 hv
  rw [hrun]
  injection hc with h1 h2
  injection h1 with h1
  injection h1 with _ h1
  rw [h1]
theorem m_look_ok {w : World} {b n : Nat} {M : List Pr} (h : KMap w b n M) (x : Nat) (hx : x < 4611686018427387904) : (Instr.lookup MT (.map (some b)) (kv x) true).run Try.prog w = .ok (.tuple #[.int .i64 (val M x), .bool (there M x)]) w := by
  obtain ⟨D, h, hat, -⟩ := h
  obtain ⟨kl, hkl⟩ := key_key x hx
  obtain ⟨v, ps, hrun, hv⟩ := h.look_ok key_law m_info.1 (m_zero w) (plainElem_int m_info.2 (by decide)) hkl
  rw [(hat x kl hkl).1] at hv
  rw [(hat x kl hkl).2] at hrun
  obtain ⟨c, rfl, hc, -⟩ := plainElem_int_inv m_info.2 hv
  rw [hrun]
  injection hc with h1 h2
  injection h1 with h1
  injection h1 with _ h1
  rw [h1]
theorem m_put {w : World} {b n : Nat} {M : List Pr} (h : KMap w b n M) (hn : n < 1000000) (x d : Nat) (hx : x < 4611686018427387904) (hd : d < 4611686018427387904) (hnew : there M x = false) :
    ∃ w', (Instr.mapUpdate MT (.map (some b)) (kv x) (.int .i64 d)).run Try.prog w = .ok () w' ∧ KMap w' b (n + 1) (M ++ [(x, d)]) ∧ Keep [b] w w' := by
  obtain ⟨D, h, hat, hsz⟩ := h
  obtain ⟨kl, hkl⟩ := key_key x hx
  obtain ⟨w', hrun, h', hgr⟩ := h.update key_law m_info.1 (by simp only [maxLen]; omega) hkl (plainElem_int m_info.2 (nat_wf hd))
  refine ⟨w', hrun, ⟨_, h', fun y kl' hkl' => ?_, ?_⟩, keep_grown hgr [b] (fun k hk _ => by cases hk; simp)⟩
  · by_cases e : kl' = kl
    · subst e
      obtain rfl := kv_inj hkl' hkl
      rw [atKey_put_same h.isMap (key_law.key hkl'), has_put_same h.isMap (key_law.key hkl'), val_snoc hnew, there_snoc]
      simp
    · have hne : ¬ (y = x) := fun h => e (by
        subst h
        rw [hkl] at hkl'
        exact (Option.some.inj hkl').symm)
      rw [atKey_put_other e, has_put_other e, (hat y kl' hkl').1, (hat y kl' hkl').2, val_snoc hnew, there_snoc, if_neg hne]
      have : (x == y) = false := by simp; omega
      rw [this, Bool.or_false]
      exact ⟨rfl, rfl⟩
  · rw [size_put (h.tidy key_law), (hat x kl hkl).2, hnew, hsz]; simp
theorem m_del {w : World} {b n : Nat} {M : List Pr} (h : KMap w b n M) (hu : uq M) (x : Nat) (hx : x < 4611686018427387904) (ty : TypeId) :
    ∃ w', (Builtin.delete_ #[MT, KT] ty #[.map (some b), kv x]).run Try.prog w = .ok (.tuple #[]) w' ∧ KMap w' b n (off x M) ∧ Keep [b] w w' := by
  obtain ⟨D, h, hat, hsz⟩ := h
  obtain ⟨kl, hkl⟩ := key_key x hx
  obtain ⟨w', hrun, h', hgr⟩ := h.drop key_law m_info.1 hkl ty
  refine ⟨w', hrun, ⟨_, h', fun y kl' hkl' => ?_, ?_⟩, keep_grown hgr.grown [b] (fun k hk _ => by cases hk; simp)⟩
  · by_cases e : kl' = kl
    · subst e
      obtain rfl := kv_inj hkl' hkl
      rw [atKey_del_same, has_del_same, val_off, there_off, if_pos rfl]
      simp
    · have hne : ¬ (y = x) := fun h => e (by
        subst h
        rw [hkl] at hkl'
        exact (Option.some.inj hkl').symm)
      rw [atKey_del_other e, has_del_other e, (hat y kl' hkl').1, (hat y kl' hkl').2, val_off, there_off, if_neg hne]
      have : (y == x) = false := by simp; omega
      rw [this]
      simp
  · have h1 := size_del (k := kl) (h.tidy key_law)
    have h2 := off_len (n := x) hu
    rw [(hat x kl hkl).2, hsz] at h1
    cases ht : there M x <;> rw [ht] at h1 h2 <;> simp at h1 h2 <;> omega
theorem m_len {w : World} {b n : Nat} {M : List Pr} (h : KMap w b n M) (ty : TypeId) : (Builtin.len_ #[MT] ty #[.map (some b)]).run Try.prog w = .ok (.int .i64 (M.length : Nat)) w := by
  obtain ⟨D, h, -, hsz⟩ := h
  rw [h.len m_info.1 ty, hsz]
end Go.Proofs.Ytbifmdepkbgnjaa.Wh

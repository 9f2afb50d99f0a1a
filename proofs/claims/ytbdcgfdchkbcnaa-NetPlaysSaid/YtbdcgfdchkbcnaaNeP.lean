/- net: what NetOnly counts: plain. And a count that goes up or down, step by step. -/
import Derived.Test.YtbdcgfdchkbcnaaNeO
namespace Go.Proofs.Ytbdcgfdchkbcnaa.Ne
open Go.RowKit Go.Proofs.Ytbdcgfdchkbcnaa.L Go.Proofs.Ytbdcgfdchkbcnaa.O Go.Proofs.Ytbdcgfdchkbcnaa.R Go.Proofs.Ytbdcgfdchkbcnaa.A Go.Proofs.Ytbdcgfdchkbcnaa.S Go.Proofs.Ytbdcgfdchkbcnaa.T Go.Proofs.Ytbdcgfdchkbcnaa.C Go.Proofs.Ytbdcgfdchkbcnaa.G Go.Proofs.Ytbdcgfdchkbcnaa.E
set_option linter.unusedVariables false
set_option linter.unusedSimpArgs false

open Classical in
noncomputable def occ (p : Pkt) : List Pkt → Nat
  | [] => 0
  | x :: L => (if p = x then 1 else 0) + occ p L
theorem occ_append (p : Pkt) : ∀ (L M : List Pkt), occ p (L ++ M) = occ p L + occ p M
  | [], M => by simp [occ]
  | x :: L, M => by simp only [List.cons_append, occ, occ_append p L M]; omega
theorem occ_le (p : Pkt) : ∀ L : List Pkt, occ p L ≤ L.length
  | [] => Nat.le_refl _
  | x :: L => by have := occ_le p L; simp only [occ, List.length_cons]; split <;> omega
theorem occ_take (p : Pkt) (L : List Pkt) (k : Nat) : occ p (L.take k) ≤ occ p L := by
  have := occ_append p (L.take k) (L.drop k)
  rw [List.take_append_drop] at this
  omega
open Classical in
theorem occ_snoc (p : Pkt) (L : List Pkt) (x : Pkt) : occ p (L ++ [x]) = occ p L + (if p = x then 1 else 0) := by
  rw [occ_append]; simp [occ]
theorem occ_next (p : Pkt) (L : List Pkt) (j : Nat) (hj : j < L.length) : occ p (L.take (j + 1)) = occ p (L.take j) + occ p [L[j]] := by
  rw [List.take_add_one, List.getElem?_eq_getElem hj, occ_append]
  rfl
theorem occ_erase (p : Pkt) : ∀ (L : List Pkt) (i : Nat) (hi : i < L.length), occ p (L.eraseIdx i) + occ p [L[i]] = occ p L
  | x :: L, 0, hi => by simp only [List.eraseIdx_zero, List.tail_cons, List.getElem_cons_zero, occ]; omega
  | x :: L, i + 1, hi => by
    have := occ_erase p L i (by simpa using hi)
    simp only [List.eraseIdx_cons_succ, List.getElem_cons_succ, occ] at this ⊢
    omega
theorem sendL_len (nodes : Nat) (f : Int → Int → Bool) : ∀ (ps L : List Pkt), (sendL nodes f ps L).1.length + (sendL nodes f ps L).2 = L.length + ps.length
  | [], L => by simp [sendL]
  | p :: ps, L => by
    unfold sendL
    split
    · have := sendL_len nodes f ps (L ++ [p])
      simp only [List.length_append, List.length_cons, List.length_nil] at this ⊢
      omega
    · have := sendL_len nodes f ps L
      simp only [List.length_cons] at this ⊢
      omega
theorem sendL_lost (nodes : Nat) (f : Int → Int → Bool) : ∀ (ps L : List Pkt), (sendL nodes f ps L).2 ≤ ps.length
  | [], L => by simp [sendL]
  | p :: ps, L => by
    unfold sendL
    split
    · have := sendL_lost nodes f ps (L ++ [p])
      simp only [List.length_cons]
      omega
    · have := sendL_lost nodes f ps L
      simp only [List.length_cons]
      omega
theorem sendL_occ (nodes : Nat) (f : Int → Int → Bool) (y : Pkt) : ∀ (ps L : List Pkt), occ y (sendL nodes f ps L).1 ≤ occ y L + occ y ps
  | [], L => by simp [sendL, occ]
  | p :: ps, L => by
    unfold sendL
    split
    · have := sendL_occ nodes f y ps (L ++ [p])
      rw [occ_append] at this
      simp only [occ] at this ⊢
      omega
    · have := sendL_occ nodes f y ps L
      simp only [occ] at this ⊢
      omega
/-- the counts are great enough, and not too great. -/
def CI (g : Pkt → Int) (Ls : List Pkt) (B : Nat) : Prop := ∀ p, (occ p Ls : Int) ≤ g p ∧ g p ≤ (B : Int)
theorem CI.mono {g : Pkt → Int} {Ls : List Pkt} {B B' : Nat} (h : CI g Ls B) (hb : B ≤ B') : CI g Ls B' := fun p => ⟨(h p).1, by have := (h p).2; omega⟩
theorem CI.zero : CI (fun _ => 0) [] 0 := fun p => by simp [occ]
theorem updC_val (g : Pkt → Int) (x y : Pkt) (d : Int) : updC g x (g x + d) y = g y + d * occ y [x] := by
  unfold updC
  by_cases h : y = x
  · subst h; simp [occ]
  · simp [occ, h]
theorem CI.sent {g g' : Pkt → Int} {Ls ps : List Pkt} {B N nodes : Nat} {f : Int → Int → Bool} (h : CI g Ls B) (hN : ps.length = N) (hg : ∀ p, g' p = g p + occ p ps) : CI g' (sendL nodes f ps Ls).1 (B + N) := fun p => by
  have h1 := sendL_occ nodes f p ps Ls
  have h2 := h p
  have h3 := occ_le p ps
  rw [hg p]
  omega
theorem CI.took {g : Pkt → Int} {Ls : List Pkt} {B i : Nat} (h : CI g Ls B) (hi : i < Ls.length) : CI (updC g Ls[i] (g Ls[i] + -1)) (Ls.eraseIdx i) B ∧ 1 ≤ g Ls[i] := by
  refine ⟨fun p => ?_, ?_⟩
  · have h1 := occ_erase p Ls i hi
    have h2 := h p
    rw [updC_val]
    omega
  · have h1 := occ_erase Ls[i] Ls i hi
    have h2 := h Ls[i]
    have : occ Ls[i] [Ls[i]] = 1 := by simp [occ]
    omega
theorem CI.doubled {g : Pkt → Int} {Ls : List Pkt} {B i : Nat} (h : CI g Ls B) (hi : i < Ls.length) : CI (updC g Ls[i] (g Ls[i] + 1)) (Ls ++ [Ls[i]]) (B + 1) := fun p => by
  have h2 := h p
  have h3 := occ_le p [Ls[i]]
  simp only [List.length_singleton] at h3
  rw [updC_val, occ_append]
  omega
/-- whatever world has M in block cb, M counts as g. -/
def Cntd (cb : Nat) (M : Obj) (m : Nat) (g : Pkt → Int) : Prop := ∀ W : World, W.heap[cb]? = some M → PkM W cb m g
theorem Cntd.mono {cb : Nat} {M : Obj} {m m' : Nat} {g : Pkt → Int} (h : Cntd cb M m g) (hm : m ≤ m') : Cntd cb M m' g := fun W hW => by
  obtain ⟨D, h1, h2⟩ := h W hW
  exact ⟨D, h1.mono hm, h2⟩
theorem cntd_of {W : World} {cb m : Nat} {g : Pkt → Int} (h : PkM W cb m g) : ∃ M, W.heap[cb]? = some M ∧ Cntd cb M m g := by
  have hlt := h.lt
  refine ⟨W.heap[cb], Array.getElem?_eq_getElem hlt, fun W' hW' => ?_⟩
  obtain ⟨D, ⟨es, clock, hb, r⟩, h2⟩ := h
  refine ⟨D, ⟨es, clock, ?_, r⟩, h2⟩
  rw [hW', ← hb, Array.getElem?_eq_getElem hlt]
/-- the world by what has been done. -/
def Ws (W0 W1 W2 : World) : Bool → Bool → World
  | _, true => W2
  | true, false => W1
  | false, false => W0
structure IsW (W0 W1 W2 : World) (p q : Bool) (W : World) : Prop where
  e : W = Ws W0 W1 W2 p q
/-- a count that turns. -/
structure T3 (cb : Nat) (kv : Value) (gp x st : Int) (W0 W1 W2 : World) : Prop where
  ent : (Instr.mapEntry CM (.map (some cb)) kv).run Try.prog W0 = .ok (.tuple #[.int .i64 gp, .int .i64 st]) W1
  look0 : (Instr.lookup CM (.map (some cb)) kv false).run Try.prog W0 = .ok (.int .i64 gp) W0
  look1 : (Instr.lookup CM (.map (some cb)) kv false).run Try.prog W1 = .ok (.int .i64 gp) W1
  sto : (Instr.entryStore CM (.map (some cb)) (.int .i64 st) (.int .i64 x)).run Try.prog W1 = .ok () W2
  k1 : Keep [cb] W0 W1
  k2 : Keep [cb] W0 W2
section
variable {cb : Nat} {kv : Value} {gp x st : Int} {W0 W1 W2 W : World} {p q : Bool}
theorem T3.look (h : T3 cb kv gp x st W0 W1 W2) (hW : IsW W0 W1 W2 p false W) : (Instr.lookup CM (.map (some cb)) kv false).run Try.prog W = .ok (.int .i64 gp) W := by
  obtain rfl := hW.e
  cases p
  · exact h.look0
  · exact h.look1
theorem T3.entW (h : T3 cb kv gp x st W0 W1 W2) (hW : IsW W0 W1 W2 false false W) : (Instr.mapEntry CM (.map (some cb)) kv).run Try.prog W = .ok (.tuple #[.int .i64 gp, .int .i64 st]) W1 := by
  obtain rfl := hW.e
  exact h.ent
theorem T3.stoW (h : T3 cb kv gp x st W0 W1 W2) (hW : IsW W0 W1 W2 true false W) : (Instr.entryStore CM (.map (some cb)) (.int .i64 st) (.int .i64 x)).run Try.prog W = .ok () W2 := by
  obtain rfl := hW.e
  exact h.sto
theorem T3.keep (h : T3 cb kv gp x st W0 W1 W2) (hW : IsW W0 W1 W2 p q W) : Keep [cb] W0 W := by
  obtain rfl := hW.e
  cases q
  · cases p
    · exact Keep.refl _ _
    · exact h.k1
  · exact h.k2
end
theorem cnt_turn {W : World} {cb m : Nat} {g : Pkt → Int} {M : Obj} (hM : W.heap[cb]? = some M) (hc : Cntd cb M m g) (hm : m < 1000000) (p : Pkt) (hp : goodP p) (x : Int) (hx : (Lit.int .i64 x).wf = true) :
    ∃ st W1 W2 M2, T3 cb (pv p) (g p) x st W W1 W2 ∧ W2.heap[cb]? = some M2 ∧ Cntd cb M2 (m + 1) (updC g p x) := by
  have h := hc W hM
  have hl := pkm_look h p hp
  obtain ⟨st, W1, h1, h2, h3, h4⟩ := pkm_turn h hm p hp
  obtain ⟨W2, s1, s2, s3⟩ := h4 x hx
  obtain ⟨M2, t1, t2⟩ := cntd_of s2
  exact ⟨st, W1, W2, M2, ⟨h1, hl, h3, s1, h2, h2.trans s3⟩, t1, t2⟩
end Go.Proofs.Ytbdcgfdchkbcnaa.Ne

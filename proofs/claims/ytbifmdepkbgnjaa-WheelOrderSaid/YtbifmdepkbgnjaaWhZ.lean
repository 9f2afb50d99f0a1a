/- wheel: Clone, SortStableFunc, Keys. -/
import Derived.Test.YtbifmdepkbgnjaaWhY
namespace Go.Proofs.Ytbifmdepkbgnjaa.Wh
open Go.RowKit Go.Proofs.Ytbifmdepkbgnjaa.L Go.Proofs.Ytbifmdepkbgnjaa.R Go.Proofs.Ytbifmdepkbgnjaa.A Go.Proofs.Ytbifmdepkbgnjaa.S Go.Proofs.Ytbifmdepkbgnjaa.T Go.Proofs.Ytbifmdepkbgnjaa.C Go.Proofs.Ytbifmdepkbgnjaa.G Go.Proofs.Ytbifmdepkbgnjaa.E Go.Proofs.Ytbifmdepkbgnjaa.F
set_option linter.unusedVariables false
set_option linter.unusedSimpArgs false

theorem lies_rdE {α : Type} {w : World} {A : Option Addr} {n sz : Nat} {enc : α → List Value} {xs : List α} (h : RdE w A n sz (xs.map enc)) (he : ∀ x, (enc x).length = sz) (hz : 0 < sz) : Lies w A (xs.flatMap enc) := fun h0 => by
  have hxl : xs.length = n := by have := h.1; simpa using this
  have hfl := flat_len he xs
  have hn : 0 < n := by
    rcases Nat.eq_zero_or_pos n with h | h
    · rw [hfl, hxl, h] at h0; simp at h0
    · exact h
  obtain ⟨b, o, hA, hc⟩ := h.2.2.2 hn
  refine ⟨b, o, hA, fun j hj => ?_⟩
  rw [hfl, hxl] at hj
  have hi : j / sz < n := Nat.div_lt_of_lt_mul (by rw [Nat.mul_comm]; exact hj)
  have hr : j % sz < sz := Nat.mod_lt _ hz
  have e : j / sz * sz + j % sz = j := by rw [Nat.mul_comm]; exact Nat.div_add_mod j sz
  have h1 := hc (j / sz) hi (j % sz) hr
  rw [Nat.add_assoc, e, List.getElem?_map, Option.bind_map] at h1
  have h2 := flat_at he hr xs (j / sz)
  rw [e] at h2
  rw [h1, h2]
  rfl
theorem clone_tm (A : Option Addr) (n c : Nat) (L : List Tm) (w : World) (hr : RdE w A n 7 (L.map encT)) (hA : A = none → n = 0 ∧ c = 0) (hn' : n ≤ 1000000) :
    Calls Try.prog 29 #[.slice A n c] w fun e w' => ∃ v, e = .returned v ∧ w'.ownsRow w.heap.size TM 7 v n (L.flatMap encT) ∧ Below w.heap.size w w' := by
  have hl : Hid (L.length = n) := Lib.hid (by have := hr.1; simpa using this)
  have HR := Lib.hid hr
  have hnl := fun w => Go.run_eql_slice_nil (P := Try.prog) w 61 66 A n c (by kernel_rfl)
  have HN := Lib.hid hn'
  clear hr hn'
  cases A with
  | none =>
    obtain ⟨rfl, rfl⟩ := hA rfl
    go_enter Try.func29, Try.ntmps29
    go_wp2
    go_ret
    have hl0 : L = [] := List.eq_nil_of_length_eq_zero hl.out
    subst hl0
    exact ⟨_, rfl, World.ownsRow_nil _ _ _ _, Below.refl _ _⟩
  | some a =>
    have hne : ¬ (some a = none) := by simp
    have HA : Hid ((some a : Option Addr) = none → n = 0 ∧ c = 0) := Lib.hid hA
    clear hA
    have hls : Lies (w.alloc (.cells #[] 66)) (some a) (L.flatMap encT) := lies_rdE (HR.out.below (below_alloc _ _)) encT_len (by decide)
    have HLS := Lib.hid hls
    have H1 : Hid (∀ u ∈ L.flatMap encT, u.oneCell' = true) := Lib.hid one_enc
    have HFL : Hid ((L.flatMap encT).length = n * 7) := Lib.hid (by rw [flat_len encT_len, hl.out])
    clear hls
    obtain ⟨F, hF⟩ : ∃ F, L.flatMap encT = F := ⟨_, rfl⟩
    rw [hF] at HLS H1 HFL ⊢
    go_enter Try.func29, Try.ntmps29
    go_wp2_with (at_builtin; refine wpList_append_src _ rfl (.tmp 5) (.tmp 6) w.heap.size 61 66 (.agg #[.int .i64 0, .int .i64 0, .int .i64 0, .int .i64 0, .int .i64 0, .int .i64 0, .int .i64 0]) 7 56 rfl (by kernel_rfl) (by kernel_rfl) rfl (by decide) (by decide) _ 0 [] rfl (World.ownsRow_lit (size := 7) w #[] 0 (Nat.le_refl _) (by decide) rfl) (some a) n c rfl HA.out F HFL.out HLS.out H1.out (by have := HN.out; omega) (by simp) ?_; intro v1 w2 ho1 hg1 hv1)
    go_ret
    refine ⟨_, rfl, by simpa using ho1, below_first hg1⟩

theorem sort_any (base g c n : Nat) (T : List Tm) (w W0 : World) (h : Srt base g c n w W0 T) (hn : n ≤ 100000) :
    Calls Try.prog 30 #[.slice (some ⟨g, 0, none⟩) n c, .func (.func 31) #[] #[]] W0 fun e w' => e = .returned (.tuple #[]) ∧ Srt base g c n w w' (stable n T) := by
  have HS := Lib.hid (stable_any base g c n T w W0 h hn)
  obtain ⟨R, hR⟩ : ∃ R, stable n T = R := ⟨_, rfl⟩
  rw [hR] at HS ⊢
  clear h hR
  go_enter Try.func30, Try.ntmps30
  go_wp2_with fail
  refine HS.out.mono ?_
  rintro e w1 ⟨rfl, hs⟩
  have HS1 := Lib.hid hs
  clear hs
  go_wp2_with fail
  go_end0
  exact ⟨rfl, HS1.out⟩
set_option maxHeartbeats 4000000 in
theorem keysw_any (b : Nat) (now : Int) (v : Value) (L : List Tm) (w : World) (h : Wh w b now v L) (h0 : 0 < L.length) (hn : L.length ≤ 100000) :
    Calls Try.prog 12 #[.pointer (some ⟨b, 0, none⟩)] w fun e w' => ∃ u, e = .returned u ∧ w'.ownsRow w.heap.size KT 6 u L.length (((stable L.length L).map keyOf).flatMap encK) ∧ Below w.heap.size w w' := by
  obtain ⟨A, cp, rfl, hr, -, hnone⟩ := h.rd
  have c1 := h.cell.2.1
  have HC := Lib.hid (clone_tm A L.length cp L w hr hnone (by omega))
  obtain ⟨n, hnn⟩ : ∃ n, L.length = n := ⟨_, rfl⟩
  have HL := Lib.hid hnn
  rw [hnn] at HC c1 h0 hn ⊢
  clear h hr hnone hnn
  go_enter Try.func12, Try.ntmps12
  go_wp2_with fail
  refine HC.out.mono ?_
  rintro e w1 ⟨v1, rfl, ho1, hb1⟩
  obtain ⟨g, cc, hv1⟩ : ∃ g cc, v1 = .slice (some ⟨g, 0, none⟩) n cc := by
    rcases ho1.2 with ⟨_, hz⟩ | ⟨g, cap, cur, hv, _⟩
    · omega
    · exact ⟨g, cap, hv⟩
  subst hv1
  have HS := Lib.hid (sort_any w.heap.size g cc n L w1 w1 ⟨ho1, Keep.refl _ _⟩ hn)
  have hg := (own_some ho1).2.1
  have HG := Lib.hid (And.intro hg hb1)
  clear ho1 hb1 hg
  go_wp2_with fail
  refine HS.out.mono ?_
  rintro e w2 ⟨rfl, hs⟩
  have hl2 := hs.len
  obtain ⟨A2, c2, hv2, hr2, -, -⟩ := own_rdE hs.1 encT_len hl2
  injection hv2 with e1 e2 e3
  subst e1 e3
  clear e2
  have HK := Lib.hid (keys_any (some ⟨g, 0, none⟩) n cc (stable n L) w2 hr2 (by omega))
  have HB2 : Hid (Below w.heap.size w w2) := Lib.hid (HG.out.2.trans (hs.2.below HG.out.2.size (by simpa using HG.out.1)))
  clear hs hr2 hl2
  go_wp2_with fail
  refine HK.out.mono ?_
  rintro e w3 ⟨u, rfl, hu, hb3⟩
  have HF := Lib.hid (And.intro (own_base hu HB2.out.size) (HB2.out.trans (hb3.mono HB2.out.size)))
  clear hu hb3
  go_wp2_with fail
  go_ret
  exact ⟨u, rfl, HF.out.1, HF.out.2⟩
end Go.Proofs.Ytbifmdepkbgnjaa.Wh

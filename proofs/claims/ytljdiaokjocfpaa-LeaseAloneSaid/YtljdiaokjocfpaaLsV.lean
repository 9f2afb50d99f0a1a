/- LeaseAlone: the walk. -/
import Derived.Test.YtljdiaokjocfpaaLsU
import Derived.Test.YtljdiaokjocfpaaLsN
import Derived.Deep.LoopGhost
import Derived.Deep.DeepCutAuto
import Derived.Deep.CutBlock
namespace Go.Proofs.Ytljdiaokjocfpaa.Ls
open Go.RowKit Go.Proofs.Ytljdiaokjocfpaa.L Go.Proofs.Ytljdiaokjocfpaa.O Go.Proofs.Ytljdiaokjocfpaa.A Go.Proofs.Ytljdiaokjocfpaa.R Go.Proofs.Ytljdiaokjocfpaa.S Go.Proofs.Ytljdiaokjocfpaa.T
set_option linter.unusedVariables false
set_option linter.unusedSimpArgs false

/-- what the round's first part leaves. -/
structure Mid (w1 w : World) (bb gg ob N : Nat) (T : List Slt) (x : OpR) (v u : Value) (c : Nat) : Prop where
  lt : LT w1 w bb gg T
  len : T.length = N
  op : w.heap[ob]? = some (.cells #[.int .i64 x.k, .int .i64 x.n, .int .i64 x.a, .int .i64 x.b, .int .i64 x.c, .slice x.L.A x.L.n x.L.c] 65 (0, 0))
  hob : gg < ob ∧ bb < ob
theorem Mid.below {w1 w w2 : World} {bb gg ob N : Nat} {T : List Slt} {x : OpR} {v u : Value} {c : Nat} (h : Mid w1 w bb gg ob N T x v u c) (hb : Below w.heap.size w w2) : Mid w1 w2 bb gg ob N T x v u c :=
  ⟨h.lt.below hb, h.len, (hb.block ob (Array.getElem?_eq_some_iff.1 h.op).1).trans h.op, h.hob⟩
def OvOk (on on' ov tq : Bool) (pu ru : Int) : Prop := (on = true → ov = false → on' = true ∧ tq = true ∧ pu ≤ ru) ∧ (on = true → ov = true → on' = false)
theorem Mid.keep {w1 w w2 : World} {bb gg ob N : Nat} {T T' : List Slt} {x : OpR} {v u : Value} {c : Nat} (h : Mid w1 w bb gg ob N T x v u c) (hk : Keep [gg] w w2) (hl : LT w1 w2 bb gg T') (hT : T'.length = T.length) : Mid w1 w2 bb gg ob N T' x v u c :=
  ⟨hl, hT.trans h.len, keep_block hk h.op (by have := h.hob.1; simp; omega), h.hob⟩
theorem Mid.belowB {w1 w w2 : World} {bb gg ob N : Nat} {T : List Slt} {x : OpR} {v u v' u' : Value} {c c' : Nat} (h : Mid w1 w bb gg ob N T x v u c) (hb : Below (ob + 1) w w2) : Mid w1 w2 bb gg ob N T x v' u' c' :=
  ⟨⟨h.lt.tab.belowB hb (by have := h.hob.2; omega) (by have := h.hob.1; omega), h.lt.low.trans (hb.mono (by have := h.lt.hg; have := h.hob.1; omega)), h.lt.hg⟩, h.len, (hb.block ob (by omega)).trans h.op, h.hob⟩
set_option maxHeartbeats 40000000 in
set_option maxRecDepth 100000 in
theorem alone_walk (w : World) (cc : Nat) (A : Option Addr) (n ca : Nat) (ops : List OpR) (hcc : cc < 256) (hs : Script w A n ops) :
    Calls Try.prog 10 #[.int .u8 cc, .slice A n ca] w fun e w' => e = .returned (.bool true) ∧ Below w.heap.size w w' := by
  have hln := hs.rd.2.1
  have HS := Lib.hid hs
  have hl := Lib.hid hs.len
  clear hs
  obtain ⟨gr, hgr⟩ : ∃ gr, Hid (greatB ops = gr) := ⟨_, Lib.hid rfl⟩
  cases gr
  case true =>
    go_enter Try.func10, Try.ntmps10
    go_wp2_with fail
    refine (awake_any w).mono ?_
    rintro e w1 ⟨rfl, hb1⟩
    go_wp2_with fail
    refine (great_any w1 A n ca ops (HS.out.below hb1) true hgr.out).mono ?_
    rintro e w2 ⟨rfl, hb2⟩
    go_wp2
    go_ret
    exact ⟨rfl, below2 hb1 hb2⟩
  case false =>
    obtain ⟨N, hN⟩ : ∃ N : Nat, Hid (1 + (cc : Int) % 16 = (N : Int)) := ⟨1 + cc % 16, Lib.hid (by omega)⟩
    have hn1 : 1 ≤ N := by have := hN.out; omega
    have hn2 : N ≤ 16 := by have := hN.out; omega
    go_enter Try.func10, Try.ntmps10
    go_wp2_with fail
    refine (awake_any w).mono ?_
    rintro e w0 ⟨rfl, hb0⟩
    go_wp2_with fail
    refine (great_any w0 A n ca ops (HS.out.below hb0) false hgr.out).mono ?_
    rintro e w1 ⟨rfl, hb1⟩
    have HS1 := Lib.hid ((HS.out.below hb0).below hb1)
    have HB := Lib.hid (below2 hb0 hb1)
    clear hb0 hb1
    go_wp2_with fail
    rw [hN.out]
    refine (new_any N w1 hn1 hn2).mono ?_
    rintro e w2 ⟨rfl, h2⟩
    obtain ⟨bb, hbb⟩ : ∃ bb, Hid (w1.heap.size + 1 = bb) := ⟨_, Lib.hid rfl⟩
    obtain ⟨gg, hgg⟩ : ∃ gg, Hid (w1.heap.size = gg) := ⟨_, Lib.hid rfl⟩
    rw [hbb.out] at h2 ⊢
    have h2' : LT w1 w2 bb gg (List.replicate N zeroS) := by rw [← hgg.out]; exact h2
    clear h2
    go_wp2_with fail
    go_loopg [36] n (fun gk i wr => ∃ (k : Nat) (T : List Slt), gk = n - k ∧ k ≤ n ∧ i = .int .i64 k ∧ LT w1 wr bb gg T ∧ T.length = N)
    case atStart => exact ⟨0, _, by omega, by omega, rfl, h2', by simp⟩
    case round =>
      obtain ⟨k, T, rfl, hk, rfl, hL, hT⟩ := hrel
      by_cases hlt : k < n
      · obtain ⟨ab, ao, x, hA, ⟨hkl, hx⟩, hab, c0, c1, c2, c3, c4, c5⟩ := (HS1.out.below hL.low).at k hlt
        subst hA
        have HX := Lib.hid (HS1.out.ls x (by rw [← hx]; exact List.getElem_mem _))
        obtain ⟨xk, xn, xa, xb, xc, ⟨LA, Ln, Lc, Lxs⟩⟩ := x
        dsimp only at c0 c1 c2 c3 c4 c5
        have HL := Lib.hid hL
        have HT := Lib.hid hT
        clear hL hT hx h2'
        obtain ⟨ob, hob⟩ : ∃ ob, Hid (wr.heap.size = ob) := ⟨_, Lib.hid rfl⟩
        obtain ⟨W, hW⟩ : ∃ W, Hid (wr.alloc (.cells #[.int .i64 xk, .int .i64 xn, .int .i64 xa, .int .i64 xb, .int .i64 xc, .slice LA Ln Lc] 65) = W) := ⟨_, Lib.hid rfl⟩
        have hbW : Hid (Below wr.heap.size wr W) := Lib.hid (by rw [← hW.out]; exact below_alloc _ _)
        have hM : Hid (Mid w1 W bb gg ob N T ⟨xk, xn, xa, xb, xc, ⟨LA, Ln, Lc, Lxs⟩⟩ (.slice none 0 0) (.slice none 0 0) 0) := Lib.hid ⟨HL.out.below hbW.out, HT.out, by rw [← hW.out, ← hob.out]; exact heap_alloc_new _ _, by rw [← hob.out]; exact ⟨HL.out.tab.lt.2, HL.out.tab.lt.1⟩⟩
        have hobW : Hid (ob + 1 = W.heap.size) := Lib.hid (by rw [← hW.out, ← hob.out]; simp)
        go_wp2_with fail
        rw [hW.out, hob.out]
        clear c0 c1 c2 c3 c4 c5
        go_loopg [10, 11, 12] N (fun gk v u i wx => ∃ c : Nat, gk = N - c ∧ c ≤ N ∧ i = .int .i64 c ∧ Mid w1 wx bb gg ob N T ⟨xk, xn, xa, xb, xc, ⟨LA, Ln, Lc, Lxs⟩⟩ v u c ∧ Rows2 wx (ob + 1) v u T c)
        case atStart => exact ⟨0, by omega, by omega, rfl, hM.out, ⟨World.ownsRow_nil _ _ _ _, World.ownsRow_nil _ _ _ _, by simp [Value.ownBlock]⟩⟩
        case round =>
          obtain ⟨c, rfl, hc, rfl, hMc, hR⟩ := hrel
          by_cases hcN : c < N
          · have hcT : c < T.length := by rw [HT.out]; exact hcN
            have HO := Lib.hid (lt_of hMc.lt c hcT _ rfl _ _ (holdOf_was _) rfl)
            obtain ⟨s, hs⟩ : ∃ s, Hid (T[c] = s) := ⟨_, Lib.hid rfl⟩
            rw [hs.out] at HO
            have hX := Lib.hid (congrArg Array.toList (holdOf_was s))
            obtain ⟨⟨pa, pb, pc, pu, pon⟩, hp⟩ : ∃ p, Hid (was s = p) := ⟨_, Lib.hid rfl⟩
            rw [hp.out] at HO hX
            obtain ⟨on, hon⟩ : ∃ on, Hid (s.on = on) := ⟨_, Lib.hid rfl⟩
            rw [hon.out] at HO
            dsimp only at HO hX
            have HM := Lib.hid hMc
            have HR := Lib.hid hR
            clear hMc hR
            go_wp2_with fail
            refine HO.out.mono ?_
            rintro e w3 ⟨rfl, hL3, hb3⟩
            have M3 := Lib.hid (HM.out.below hb3)
            have R3 := Lib.hid (HR.out.below hb3)
            have hB3 : ob + 1 ≤ w3.heap.size := by
              have h1 := HM.out.op
              have h2 := (Array.getElem?_eq_some_iff.1 h1).1
              have h3 := hb3.size
              omega
            clear hL3 hb3 HO HM HR
            have own4 := (R3.out.hs.alloc (.cells #[.int .i64 pa, .int .i64 pb, .int .i64 pc, .int .i64 pu] 58)).alloc (.cells #[.int .i64 pa, .int .i64 pb, .int .i64 pc, .int .i64 pu] 58)
            have r4 : ((w3.alloc (.cells #[.int .i64 pa, .int .i64 pb, .int .i64 pc, .int .i64 pu] 58)).alloc (.cells #[.int .i64 pa, .int .i64 pb, .int .i64 pc, .int .i64 pu] 58)).heap[w3.heap.size + 1]? = some (.cells #[.int .i64 pa, .int .i64 pb, .int .i64 pc, .int .i64 pu] 58 (0, 0)) := by rw [at_alloc, if_pos (by simp)]
            have hbs4 : ob + 1 ≤ ((w3.alloc (.cells #[.int .i64 pa, .int .i64 pb, .int .i64 pc, .int .i64 pu] 58)).alloc (.cells #[.int .i64 pa, .int .i64 pb, .int .i64 pc, .int .i64 pu] 58)).heap.size := by simp; omega
            have O4 := Lib.hid own4
            have R4 := Lib.hid r4
            have B4 := Lib.hid hbs4
            clear own4 r4 hbs4
            go_wp2_with (first | (at_builtin; refine wpList_append_src _ rfl (.tmp 51) (.tmp 53) (ob + 1) 66 58 (.agg #[.int .i64 0, .int .i64 0, .int .i64 0, .int .i64 0]) 4 32 rfl (by kernel_rfl) (by kernel_rfl) rfl (by decide) (by decide) _ c (holdsV T c) rfl O4.out (some ⟨w3.heap.size + 1, 0, none⟩) 1 1 rfl (fun h => by cases h) [.int .i64 pa, .int .i64 pb, .int .i64 pc, .int .i64 pu] rfl (lies_block R4.out) (by simp [Value.oneCell']) (by omega) B4.out ?_; intro v1 w4 ho1 hg1 hv1; have HO1 := Lib.hid ho1; have HG1 := Lib.hid hg1; have HV1 := Lib.hid hv1; have O5 := Lib.hid (R3.out.mid hg1); have B5 := Lib.hid (show ob + 1 ≤ (w4.alloc (.cells #[.bool on] 4)).heap.size by have := hg1.size; simp at this ⊢; omega); clear ho1 hg1 hv1) | (at_builtin; refine wpList_append_src _ rfl (.tmp 55) (.tmp 57) (ob + 1) 67 4 (.bool false) 1 1 rfl (by kernel_rfl) (by kernel_rfl) rfl (by decide) (by decide) _ c (onsV T c) rfl (O5.out.alloc _) (some ⟨w4.heap.size, 0, none⟩) 1 1 rfl (fun h => by cases h) [.bool on] rfl (lies_block (heap_alloc_new _ _)) (by simp [Value.oneCell']) (by omega) B5.out ?_; intro u1 w5 ho2 hg2 hv2))
            obtain ⟨R5, hb5⟩ := R3.out.fin hB3 hcT (by rw [hs.out]; exact hX.out) (by rw [hs.out, hon.out]) HO1.out HG1.out HV1.out ho2 hg2 hv2
            have M5 : Mid w1 w5 bb gg ob N T ⟨xk, xn, xa, xb, xc, ⟨LA, Ln, Lc, Lxs⟩⟩ v1 u1 (c + 1) := M3.out.belowB hb5
            go_roundg (N - (c + 1))
            case measure => omega
            case rel => exact ⟨c + 1, rfl, by omega, by go_num, M5, R5⟩
          · have hce : c = N := by omega
            subst hce
            have HM := Lib.hid hMc
            have HR := Lib.hid hR
            clear hMc hR hc
            have q0 : wr.cell? ⟨ob, 0, none⟩ = some (.int .i64 xk) := by rw [cell_of_row _ _ 0 _ _ _ HM.out.op]; rfl
            have q1 : wr.cell? ⟨ob, 1, none⟩ = some (.int .i64 xn) := by rw [cell_of_row _ _ 1 _ _ _ HM.out.op]; rfl
            have q2 : wr.cell? ⟨ob, 2, none⟩ = some (.int .i64 xa) := by rw [cell_of_row _ _ 2 _ _ _ HM.out.op]; rfl
            have q3 : wr.cell? ⟨ob, 3, none⟩ = some (.int .i64 xb) := by rw [cell_of_row _ _ 3 _ _ _ HM.out.op]; rfl
            have q4 : wr.cell? ⟨ob, 4, none⟩ = some (.int .i64 xc) := by rw [cell_of_row _ _ 4 _ _ _ HM.out.op]; rfl
            have q5 : wr.cell? ⟨ob, 5, none⟩ = some (.slice LA Ln Lc) := by rw [cell_of_row _ _ 5 _ _ _ HM.out.op]; rfl
            go_upto_block 4 with (fail)
            obtain ⟨T', hT'⟩ : ∃ T', Hid (applyOp xk xn xa xb xc Lxs T = T') := ⟨_, Lib.hid rfl⟩
            have hTl : Hid (T'.length = T.length) := Lib.hid (by rw [← hT'.out]; exact applyOp_len _ _ _ _ _ _ _)
            go_cut [60] (fun s60 wx => Mid w1 wx bb gg ob c T' ⟨xk, xn, xa, xb, xc, ⟨LA, Ln, Lc, Lxs⟩⟩ u10 u11 c ∧ Rows2 wx (ob + 1) u10 u11 T c)
            case first =>
              by_cases k0 : xk = 0
              · have e0 : (xk == 0) = true := by simpa using k0
                have eT : Hid (holdS T xa xb xc xn Lxs = T') := Lib.hid (by rw [← hT'.out]; simp [applyOp, k0])
                have hl0 := Lib.hid (lt_hold HM.out.lt xa xb xc xn LA Ln Lc Lxs (HX.out.1.below HM.out.lt.low) (fun h0 p hp => by have h1 := HX.out.2.2 h0 p hp; have h2 := HM.out.lt.hg; have h3 := hgg.out; omega) _ T' rfl eT.out)
                clear k0
                go_wp2_with fail
                refine hl0.out.mono ?_
                rintro e w5 ⟨rfl, h5, hk5⟩
                go_wp2_with fail
                go_meet
                exact ⟨HM.out.keep hk5 h5 hTl.out, HR.out.keep hk5 (by have := HM.out.hob.1; omega)⟩
              · have e0 : (xk == 0) = false := by simpa using k0
                by_cases k1 : xk = 1
                · have e1 : (xk == 1) = true := by simpa using k1
                  have eT : Hid (dropS (fun s => tidB s.a s.b s.c xa xb xc) T = T') := Lib.hid (by rw [← hT'.out]; simp [applyOp, k1])
                  have hl0 := Lib.hid (lt_free HM.out.lt xa xb xc _ T' rfl eT.out)
                  clear k0 k1
                  go_wp2_with fail
                  refine hl0.out.mono ?_
                  rintro e w5 ⟨A2, c2, rfl, _, h5, hk5⟩
                  go_wp2_with fail
                  go_meet
                  exact ⟨HM.out.keep hk5 h5 hTl.out, HR.out.keep hk5 (by have := HM.out.hob.1; omega)⟩
                · have e1 : (xk == 1) = false := by simpa using k1
                  by_cases k2 : xk = 2
                  · have e2 : (xk == 2) = true := by simpa using k2
                    have eT : Hid (dropS (fun s => decide (s.u ≤ xn)) T = T') := Lib.hid (by rw [← hT'.out]; simp [applyOp, k2])
                    have hl0 := Lib.hid (lt_expire HM.out.lt xn _ T' rfl eT.out)
                    clear k0 k1 k2
                    go_wp2_with fail
                    refine hl0.out.mono ?_
                    rintro e w5 ⟨A2, c2, rfl, _, h5, hk5⟩
                    go_wp2_with fail
                    go_meet
                    exact ⟨HM.out.keep hk5 h5 hTl.out, HR.out.keep hk5 (by have := HM.out.hob.1; omega)⟩
                  · have e2 : (xk == 2) = false := by simpa using k2
                    have eT : Hid (T = T') := Lib.hid (by rw [← hT'.out]; simp [applyOp, k0, k1, k2])
                    clear k0 k1 k2
                    go_wp2_with fail
                    go_meet
                    exact ⟨by rw [← eT.out]; exact HM.out, HR.out⟩
            case rest =>
              obtain ⟨hM5, hR5⟩ := hcut
              clear q0 q1 q2 q3 q4 q5 HM HR
              go_wp2_with fail
              go_loopg [15] c (fun gk i wx => ∃ z : Nat, gk = c - z ∧ z ≤ c ∧ i = .int .i64 z ∧ Mid w1 wx bb gg ob c T' ⟨xk, xn, xa, xb, xc, ⟨LA, Ln, Lc, Lxs⟩⟩ u10 u11 c ∧ Rows2 wx (ob + 1) u10 u11 T c)
              case atStart => exact ⟨0, by omega, by omega, rfl, hM5, hR5⟩
              case round =>
                obtain ⟨z, rfl, hz, rfl, hMz, hRz⟩ := hrel
                by_cases hzc : z < c
                · have hzT : z < T.length := by rw [HT.out]; exact hzc
                  have hzT' : z < T'.length := by rw [hTl.out]; exact hzT
                  have one := apply_one xk xn xa xb xc Lxs T z hzT
                  simp only [hT'.out] at one
                  obtain ⟨s, hs⟩ : ∃ s, Hid (T[z] = s) := ⟨_, Lib.hid rfl⟩
                  obtain ⟨s', hs'⟩ : ∃ s', Hid (T'[z] = s') := ⟨_, Lib.hid rfl⟩
                  rw [hs.out, hs'.out] at one
                  have ONE := Lib.hid one
                  obtain ⟨g1, cp1, g2, cp2, hu10, hu11, _⟩ := hRz.at (by rw [HT.out]; exact Nat.le_refl _) z hzc s hs.out
                  have HO := Lib.hid (lt_of hMz.lt z hzT' s' hs'.out _ _ (holdOf_was _) rfl)
                  have HM6 := Lib.hid hMz
                  have HR6 := Lib.hid hRz
                  subst hu10
                  subst hu11
                  clear hMz hRz one hM5 hR5
                  obtain ⟨⟨pa, pb, pc, pu, _⟩, hp⟩ : ∃ p, Hid (was s = p) := ⟨_, Lib.hid rfl⟩
                  obtain ⟨⟨ra, rb, rc, ru, _⟩, hr⟩ : ∃ p, Hid (was s' = p) := ⟨_, Lib.hid rfl⟩
                  rw [hr.out] at HO
                  dsimp only at HO
                  obtain ⟨on, hon⟩ : ∃ on, Hid (s.on = on) := ⟨_, Lib.hid rfl⟩
                  obtain ⟨on', hon'⟩ : ∃ on, Hid (s'.on = on) := ⟨_, Lib.hid rfl⟩
                  rw [hon'.out] at HO
                  have kp := Lib.hid fun (h : on = true) => ONE.out.kept' (hon.out.trans h)
                  have g1' := Lib.hid fun (h : on = true) => ONE.out.gone1' (hon.out.trans h)
                  have g2' := Lib.hid fun (h : on = true) => ONE.out.gone2' (hon.out.trans h)
                  have nw := Lib.hid fun (h : on = false) (h' : on' = true) => ONE.out.new' (hon.out.trans h) (hon'.out.trans h')
                  rw [hp.out, hr.out, hon'.out] at kp
                  rw [hp.out, hon'.out] at g1' g2'
                  rw [hr.out] at nw
                  dsimp only at kp g1' g2' nw
                  go_wp2_with fail
                  refine HO.out.mono ?_
                  rintro e w6 ⟨rfl, h6, hb6⟩
                  obtain ⟨W6, hW6⟩ : ∃ W, Hid (w6.alloc (.cells #[.int .i64 ra, .int .i64 rb, .int .i64 rc, .int .i64 ru] 58) = W) := ⟨_, Lib.hid rfl⟩
                  have hbW : Below w6.heap.size w6 W6 := by rw [← hW6.out]; exact below_alloc _ _
                  have hbk : W6.heap[w6.heap.size]? = some (.cells #[.int .i64 ra, .int .i64 rb, .int .i64 rc, .int .i64 ru] 58 (0, 0)) := by rw [← hW6.out]; exact heap_alloc_new _ _
                  replace HM6 := Lib.hid ((HM6.out.below hb6).below hbW)
                  replace HR6 := Lib.hid ((HR6.out.below hb6).below hbW)
                  obtain ⟨g1b, cp1b, g2b, cp2b, hu1, hu2, r0, r1, r2, r3, r4⟩ := HR6.out.at (by rw [HT.out]; exact Nat.le_refl _) z hzc s hs.out
                  cases hu1
                  cases hu2
                  rw [hp.out] at r0 r1 r2 r3
                  rw [hon.out] at r4
                  dsimp only at r0 r1 r2 r3
                  have q0 : W6.cell? ⟨ob, 0, none⟩ = some (.int .i64 xk) := by rw [cell_of_row _ _ 0 _ _ _ HM6.out.op]; rfl
                  have q1 : W6.cell? ⟨ob, 1, none⟩ = some (.int .i64 xn) := by rw [cell_of_row _ _ 1 _ _ _ HM6.out.op]; rfl
                  have q2 : W6.cell? ⟨ob, 2, none⟩ = some (.int .i64 xa) := by rw [cell_of_row _ _ 2 _ _ _ HM6.out.op]; rfl
                  have q3 : W6.cell? ⟨ob, 3, none⟩ = some (.int .i64 xb) := by rw [cell_of_row _ _ 3 _ _ _ HM6.out.op]; rfl
                  have q4 : W6.cell? ⟨ob, 4, none⟩ = some (.int .i64 xc) := by rw [cell_of_row _ _ 4 _ _ _ HM6.out.op]; rfl
                  have t0 : W6.cell? ⟨w6.heap.size, 0, none⟩ = some (.int .i64 ra) := by rw [cell_of_row _ _ 0 _ _ _ hbk]; rfl
                  have t1 : W6.cell? ⟨w6.heap.size, 1, none⟩ = some (.int .i64 rb) := by rw [cell_of_row _ _ 1 _ _ _ hbk]; rfl
                  have t2 : W6.cell? ⟨w6.heap.size, 2, none⟩ = some (.int .i64 rc) := by rw [cell_of_row _ _ 2 _ _ _ hbk]; rfl
                  have t3 : W6.cell? ⟨w6.heap.size, 3, none⟩ = some (.int .i64 ru) := by rw [cell_of_row _ _ 3 _ _ _ hbk]; rfl
                  clear hbk hbW hb6 h6 HO
                  go_wp2_with fail
                  rw [hW6.out]
                  have hm := tid_guard
                  go_cut [18] (fun s18 wx => ∃ ov : Bool, s18 = .bool ov ∧ Below W6.heap.size W6 wx ∧ Hid (OvOk on on' ov (tidB ra rb rc pa pb pc) pu ru))
                  case first =>
                    by_cases k1 : xk = 1
                    · have e1 : (xk == 1) = true := by simpa using k1
                      cases htd : tidB pa pb pc xa xb xc with
                      | true =>
                        have hq1 : ∀ w, (Op.equalIn 10000 55 (.agg #[.int .i64 pa, .int .i64 pb, .int .i64 pc]) (.agg #[.int .i64 xa, .int .i64 xb, .int .i64 xc])).run Try.prog w = .ok true w := fun w => by rw [tid_eq, htd]
                        have HH : Hid (OvOk on on' true (tidB ra rb rc pa pb pc) pu ru) := Lib.hid ⟨fun _ h => absurd h (by decide), fun h _ => g1'.out h k1 htd⟩
                        clear kp g1' g2' nw
                        go_quiet (fail)
                        go_wp2_with fail
                        go_meet
                        exact ⟨true, rfl, below_drewN _ _, HH⟩
                      | false =>
                        have hq1 : ∀ w, (Op.equalIn 10000 55 (.agg #[.int .i64 pa, .int .i64 pb, .int .i64 pc]) (.agg #[.int .i64 xa, .int .i64 xb, .int .i64 xc])).run Try.prog w = .ok false w := fun w => by rw [tid_eq, htd]
                        have e2 : (xk == 2) = false := by simp; omega
                        have HH : Hid (OvOk on on' false (tidB ra rb rc pa pb pc) pu ru) := Lib.hid ⟨fun h _ => kp.out h (fun _ => htd) (fun h => by omega), fun _ h => absurd h (by decide)⟩
                        clear kp g1' g2' nw
                        go_quiet (fail)
                        go_wp2_with fail
                        go_meet
                        exact ⟨false, rfl, below_drewN _ _, HH⟩
                    · have e1 : (xk == 1) = false := by simpa using k1
                      by_cases k2 : xk = 2
                      · have e2 : (xk == 2) = true := by simpa using k2
                        by_cases hpu : pu ≤ xn
                        · have d1 : decide (pu ≤ xn) = true := by simpa using hpu
                          have HH : Hid (OvOk on on' true (tidB ra rb rc pa pb pc) pu ru) := Lib.hid ⟨fun _ h => absurd h (by decide), fun h _ => g2'.out h k2 hpu⟩
                          clear hpu
                          clear kp g1' g2' nw
                          go_quiet (fail)
                          go_wp2_with fail
                          go_meet
                          exact ⟨true, rfl, below_drewN _ _, HH⟩
                        · have d1 : decide (pu ≤ xn) = false := by simpa using hpu
                          have HH : Hid (OvOk on on' false (tidB ra rb rc pa pb pc) pu ru) := Lib.hid ⟨fun h _ => kp.out h (fun h => absurd h k1) (fun _ => by omega), fun _ h => absurd h (by decide)⟩
                          clear hpu
                          clear kp g1' g2' nw
                          go_quiet (fail)
                          go_wp2_with fail
                          go_meet
                          exact ⟨false, rfl, below_drewN _ _, HH⟩
                      · have e2 : (xk == 2) = false := by simpa using k2
                        have HH : Hid (OvOk on on' false (tidB ra rb rc pa pb pc) pu ru) := Lib.hid ⟨fun h _ => kp.out h (fun h => absurd h k1) (fun h => absurd h k2), fun _ h => absurd h (by decide)⟩
                        clear kp g1' g2' nw
                        go_quiet (fail)
                        go_wp2_with fail
                        go_meet
                        exact ⟨false, rfl, below_drewN _ _, HH⟩
                  case rest =>
                    obtain ⟨ov, rfl, hbc, hov⟩ := hcut
                    have q0' := cell_below hbc q0
                    have q1' := cell_below hbc q1
                    have q2' := cell_below hbc q2
                    have q3' := cell_below hbc q3
                    have q4' := cell_below hbc q4
                    have r0' := cell_below hbc r0
                    have r1' := cell_below hbc r1
                    have r2' := cell_below hbc r2
                    have r3' := cell_below hbc r3
                    have r4' := cell_below hbc r4
                    have t0' := cell_below hbc t0
                    have t1' := cell_below hbc t1
                    have t2' := cell_below hbc t2
                    have t3' := cell_below hbc t3
                    have HM7 := Lib.hid (HM6.out.below hbc)
                    have HR7 := Lib.hid (HR6.out.below hbc)
                    clear q0 q1 q2 q3 q4 r0 r1 r2 r3 r4 t0 t1 t2 t3 hbc HM6 HR6 kp g1' g2'
                    cases on
                    case true =>
                      cases ov
                      case false =>
                        obtain ⟨hok, hkt, hku⟩ := hov.out.1 rfl rfl
                        subst hok
                        have hq2 : ∀ w, (Op.equalIn 10000 55 (.agg #[.int .i64 ra, .int .i64 rb, .int .i64 rc]) (.agg #[.int .i64 pa, .int .i64 pb, .int .i64 pc])).run Try.prog w = .ok true w := fun w => by rw [tid_eq, hkt]
                        have d2 : decide (ru < pu) = false := by simp; omega
                        clear hkt hku nw
                        as_aux_lemma =>
                          go_wp2_with fail
                          try simp only [List.append_eq, List.cons_append, List.nil_append]
                          go_quiet (fail)
                          go_wp2
                          go_roundg (c - (z + 1))
                          case measure => omega
                          case rel => exact ⟨z + 1, rfl, by omega, by go_num, HM7.out.below (below_drewN _ _), HR7.out.below (below_drewN _ _)⟩
                      case true =>
                        obtain rfl := hov.out.2 rfl rfl
                        clear nw
                        as_aux_lemma =>
                          go_wp2_with fail
                          try simp only [List.append_eq, List.cons_append, List.nil_append]
                          go_quiet (fail)
                          go_wp2
                          go_roundg (c - (z + 1))
                          case measure => omega
                          case rel => exact ⟨z + 1, rfl, by omega, by go_num, HM7.out.below (below_drewN _ _), HR7.out.below (below_drewN _ _)⟩
                    case false =>
                      cases on'
                      case false =>
                        clear nw
                        as_aux_lemma =>
                          go_wp2_with fail
                          try simp only [List.append_eq, List.cons_append, List.nil_append]
                          go_quiet (fail)
                          go_wp2
                          go_roundg (c - (z + 1))
                          case measure => omega
                          case rel => exact ⟨z + 1, rfl, by omega, by go_num, HM7.out.below (below_drewN _ _), HR7.out.below (below_drewN _ _)⟩
                      case true =>
                        obtain ⟨k0, hkt⟩ := nw.out rfl rfl
                        have hq3 : ∀ w, (Op.equalIn 10000 55 (.agg #[.int .i64 ra, .int .i64 rb, .int .i64 rc]) (.agg #[.int .i64 xa, .int .i64 xb, .int .i64 xc])).run Try.prog w = .ok true w := fun w => by rw [tid_eq, hkt]
                        have e0 : (xk != 0) = false := by simp [k0]
                        clear k0 hkt nw
                        as_aux_lemma =>
                          go_wp2_with fail
                          try simp only [List.append_eq, List.cons_append, List.nil_append]
                          go_quiet (fail)
                          go_wp2
                          go_roundg (c - (z + 1))
                          case measure => omega
                          case rel => exact ⟨z + 1, rfl, by omega, by go_num, HM7.out.below (below_drewN _ _), HR7.out.below (below_drewN _ _)⟩
                · have hze : z = c := by omega
                  subst hze
                  have HM6 := Lib.hid hMz
                  clear hMz hRz hz hM5 hR5
                  go_wp2_with fail
                  go_roundg (n - (k + 1))
                  case measure => omega
                  case rel => exact ⟨k + 1, T', rfl, by omega, by go_num, HM6.out.lt, HM6.out.len⟩
      · clear hk
        go_wp2
        go_ret
        exact ⟨rfl, below2 HB.out hL.low⟩
end Go.Proofs.Ytljdiaokjocfpaa.Ls

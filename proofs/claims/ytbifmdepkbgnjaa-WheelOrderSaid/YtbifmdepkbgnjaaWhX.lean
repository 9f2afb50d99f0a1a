/- wheel: the sort's walk: symMerge. -/
import Derived.Test.YtbifmdepkbgnjaaWhW
import Derived.Deep.DeepCutAuto
import Derived.Deep.CutRange
namespace Go.Proofs.Ytbifmdepkbgnjaa.Wh
open Go.RowKit Go.Proofs.Ytbifmdepkbgnjaa.L Go.Proofs.Ytbifmdepkbgnjaa.R Go.Proofs.Ytbifmdepkbgnjaa.A Go.Proofs.Ytbifmdepkbgnjaa.S Go.Proofs.Ytbifmdepkbgnjaa.T Go.Proofs.Ytbifmdepkbgnjaa.C Go.Proofs.Ytbifmdepkbgnjaa.G Go.Proofs.Ytbifmdepkbgnjaa.E Go.Proofs.Ytbifmdepkbgnjaa.F
set_option linter.unusedVariables false
set_option linter.unusedSimpArgs false

def SymOk (base g c n : Nat) (w : World) (f : Nat) : Prop := ∀ a0 m0 b0 : Nat, b0 - a0 ≤ f → a0 < m0 → m0 < b0 → b0 ≤ n → ∀ (T : List Tm) (W : World), Srt base g c n w W T →
  Calls Try.prog 39 #[.slice (some ⟨g, 0, none⟩) n c, .int .i64 a0, .int .i64 m0, .int .i64 b0, .func (.func 31) #[] #[]] W fun e w' => e = .returned (.tuple #[]) ∧ Srt base g c n w w' (symM f T a0 m0 b0)
set_option maxHeartbeats 16000000 in
set_option maxRecDepth 100000 in
theorem symR_any (base g c n a0 m0 b0 f : Nat) (T0 : List Tm) (w W0 : World) (h : Srt base g c n w W0 T0) (hn : n ≤ 1000000) (IH : SymOk base g c n w f) (hf : b0 - a0 ≤ f + 1) (h1 : a0 + 1 < m0) (h2 : m0 + 1 < b0) (hb : b0 ≤ n) :
    Calls Try.prog 39 #[.slice (some ⟨g, 0, none⟩) n c, .int .i64 a0, .int .i64 m0, .int .i64 b0, .func (.func 31) #[] #[]] W0 fun e w' => e = .returned (.tuple #[]) ∧ Srt base g c n w w' (symM (f + 1) T0 a0 m0 b0) := by
  have HH := Lib.hid h
  have hbd := bodied_cmp1
  unfold Bodied at hbd
  obtain ⟨mid, hmid⟩ : ∃ mid, (a0 + b0) / 2 = mid := ⟨_, rfl⟩
  obtain ⟨n1, hn1⟩ : ∃ n1, mid + m0 = n1 := ⟨_, rfl⟩
  obtain ⟨st0, hst0⟩ : ∃ st0, (if mid < m0 then n1 - b0 else a0) = st0 := ⟨_, rfl⟩
  obtain ⟨r0, hr0⟩ : ∃ r0, (if mid < m0 then mid else m0) = r0 := ⟨_, rfl⟩
  obtain ⟨p1, hp1⟩ : ∃ p1, n1 - 1 = p1 := ⟨_, rfl⟩
  obtain ⟨R, hR⟩ : ∃ R, symS T0 a0 m0 b0 = R := ⟨_, rfl⟩
  have hsr : a0 ≤ st0 ∧ st0 ≤ r0 ∧ r0 ≤ n ∧ n1 ≤ st0 + b0 ∧ r0 ≤ n1 ∧ (mid < m0 → r0 = mid ∧ st0 = n1 - b0 ∧ b0 ≤ n1) ∧ (¬ mid < m0 → r0 = m0 ∧ st0 = a0) := by
    by_cases hc : mid < m0
    · rw [if_pos hc] at hst0 hr0
      omega
    · rw [if_neg hc] at hst0 hr0
      omega
  have HPB : Hid (∀ c, st0 ≤ c → c < r0 → c < n ∧ n1 - 1 - c < n ∧ c ≤ n1 - 1) := Lib.hid fun c hc1 hc2 => by
    by_cases hc : mid < m0
    · have := hsr.2.2.2.2.2.1 hc; omega
    · have := hsr.2.2.2.2.2.2 hc; omega
  have HR : Hid (R = bsG (fun c => !(ltAt T0 (n1 - 1 - c) c)) (r0 - st0 + 1) st0 r0 ∧ st0 ≤ R ∧ R ≤ r0) := Lib.hid (by
    have := bsG_range (fun c => !(ltAt T0 (n1 - 1 - c) c)) (r0 - st0 + 1) st0 r0 hsr.2.1
    have e : R = bsG (fun c => !(ltAt T0 (n1 - 1 - c) c)) (r0 - st0 + 1) st0 r0 := by
      rw [← hR]
      unfold symS bs
      dsimp only
      rw [hmid, hn1, hst0, hr0]
    rw [e]
    exact ⟨rfl, this⟩)
  obtain ⟨E, hE⟩ : ∃ E, n1 - R = E := ⟨_, rfl⟩
  have hER : E ≤ b0 ∧ R + E = n1 ∧ R ≤ n1 := by have := HR.out.2; omega
  obtain ⟨q1, hq1⟩ : ∃ q1 : Bool, decide (R < m0 ∧ m0 < E) = q1 := ⟨_, rfl⟩
  obtain ⟨q2, hq2⟩ : ∃ q2 : Bool, decide (a0 < R ∧ R < mid) = q2 := ⟨_, rfl⟩
  obtain ⟨q3, hq3⟩ : ∃ q3 : Bool, decide (mid < E ∧ E < b0) = q3 := ⟨_, rfl⟩
  obtain ⟨T1, hT1⟩ : ∃ T1, (if q1 = true then rot T0 R m0 E else T0) = T1 := ⟨_, rfl⟩
  obtain ⟨T2, hT2⟩ : ∃ T2, (if q2 = true then symM f T1 a0 R mid else T1) = T2 := ⟨_, rfl⟩
  obtain ⟨T3, hT3⟩ : ∃ T3, (if q3 = true then symM f T2 mid E b0 else T2) = T3 := ⟨_, rfl⟩
  have hfin : symM (f + 1) T0 a0 m0 b0 = T3 := by
    rw [symM, if_neg (by omega), if_neg (by omega)]
    dsimp only
    rw [hR, hmid, hn1, hE, ← hT3, ← hT2, ← hT1, ← hq1, ← hq2, ← hq3]
    simp only [decide_eq_true_eq]
  rw [hfin]
  have HQ1 := Lib.hid hq1
  have HQ2 := Lib.hid hq2
  have HQ3 := Lib.hid hq3
  have HT1 := Lib.hid hT1
  have HT2 := Lib.hid hT2
  have HT3 := Lib.hid hT3
  have HIH := Lib.hid IH
  have HSR := Lib.hid hsr
  have HER := Lib.hid hER
  have HP1 : Hid (p1 + 1 = n1) := Lib.hid (by omega)
  have em : ((a0 : Int) + (b0 : Int)) / 2 = (mid : Int) := by omega
  have en : (mid : Int) + (m0 : Int) = (n1 : Int) := by omega
  have ep : (n1 : Int) - 1 = (p1 : Int) := by omega
  have hm9 : mid ≤ 1000000 := by omega
  have hn19 : n1 ≤ 2000000 := by omega
  have hb9 : b0 ≤ 1000000 := by omega
  have HMID : Hid (a0 < mid ∧ mid < b0 ∧ mid - a0 ≤ f ∧ b0 - mid ≤ f ∧ mid ≤ n) := Lib.hid (by omega)
  obtain ⟨d1, hd1⟩ : ∃ d1, m0 - a0 = d1 := ⟨_, rfl⟩
  obtain ⟨d2, hd2⟩ : ∃ d2, b0 - m0 = d2 := ⟨_, rfl⟩
  have e1 : (m0 : Int) - (a0 : Int) = (d1 : Int) := by omega
  have e2 : (b0 : Int) - (m0 : Int) = (d2 : Int) := by omega
  have e3 : ((d1 : Int) == 1) = false := by simp; omega
  have e4 : ((d2 : Int) == 1) = false := by simp; omega
  have e5 : ¬ d1 = 1 := by omega
  have e6 : ¬ d2 = 1 := by omega
  have e7 : (d1 == 1) = false := by simp; omega
  have e8 : (d2 == 1) = false := by simp; omega
  clear h hmid hn1 hst0 hr0 hp1 hR hE hq1 hq2 hq3 hT1 hT2 hT3 hfin IH hsr hER hd1 hd2
  go_enter Try.func39, Try.ntmps39
  go_upto_if 140 with (fail)
  go_cut [20, 21] from 140 to 146 (fun s20 s21 wx => s20 = .int .i64 st0 ∧ s21 = .int .i64 r0 ∧ wx = W0)
  case first =>
    by_cases hc : mid < m0
    · have k1 : decide ((mid : Int) < (m0 : Int)) = true := by simp; omega
      have k2 : decide (mid < m0) = true := by simpa using hc
      obtain ⟨f1, f2, f3⟩ := HSR.out.2.2.2.2.2.1 hc
      have HF : Hid ((n1 : Int) - (b0 : Int) = (st0 : Int) ∧ mid = r0) := Lib.hid (by omega)
      clear hc f1 f2 f3
      rw [k2]
      go_wp2_with fail
      go_meet
      exact ⟨by rw [HF.out.1], by rw [HF.out.2], rfl⟩
    · have k1 : decide ((mid : Int) < (m0 : Int)) = false := by simp; omega
      have k2 : decide (mid < m0) = false := by simpa using hc
      obtain ⟨f1, f2⟩ := HSR.out.2.2.2.2.2.2 hc
      have HF : Hid (m0 = r0 ∧ a0 = st0) := Lib.hid (by omega)
      clear hc f1 f2
      rw [k2]
      go_wp2_with fail
      go_meet
      exact ⟨by rw [HF.out.2], by rw [HF.out.1], rfl⟩
  case rest =>
  obtain ⟨rfl, rfl, rfl⟩ := hcut
  go_wp2_with fail
  clear em en ep e1 e2 e3 e4 e5 e6 e7 e8
  have hstr := HSR.out.2.1
  have hrn := HSR.out.2.2.1
  go_loopg [20, 21] (r0 - st0) (fun gk iv jv wr => ∃ (i j : Nat), gk = j - i ∧ iv = .int .i64 i ∧ jv = .int .i64 j ∧ i ≤ j ∧ st0 ≤ i ∧ j ≤ r0 ∧ Hid (Srt base g c n w wr T0 ∧ ∃ f, j - i < f ∧ R = bsG (fun c => !(ltAt T0 (n1 - 1 - c) c)) f i j))
  case atStart => exact ⟨st0, r0, rfl, rfl, rfl, hstr, Nat.le_refl _, Nat.le_refl _, Lib.hid ⟨HH.out, r0 - st0 + 1, by omega, HR.out.1⟩⟩
  case round =>
    obtain ⟨i, j, hgk, rfl, rfl, hij, hmi, hjb, HI⟩ := hrel
    by_cases hlt : i < j
    · have d1 : decide ((i : Int) < (j : Int)) = true := by simp; omega
      have d1n : decide (i < j) = true := by simpa using hlt
      obtain ⟨hh, hhe⟩ : ∃ hh, (i + j) / 2 = hh := ⟨_, rfl⟩
      have eh : ((i : Int) + (j : Int)) / 2 = (hh : Int) := by omega
      have hhn : hh < n := (HPB.out hh (by omega) (by omega)).1
      have HHB : Hid (i ≤ hh ∧ hh < j) := Lib.hid (by omega)
      have hpb := HPB.out hh (by omega) (by omega)
      obtain ⟨pc, hpce⟩ : ∃ pc, n1 - 1 - hh = pc := ⟨_, rfl⟩
      have HPC : Hid (IntKind.i64.wrap ((p1 : Int) - (hh : Int)) = (pc : Int)) := Lib.hid (by rw [IntKind.wrap_i64]; have := HP1.out; omega)
      have hpn : pc < n := by omega
      have hl0 := HI.out.1.len
      obtain ⟨x, hx⟩ : ∃ x, T0[pc]? = some x := ⟨_, List.getElem?_eq_getElem (by omega)⟩
      obtain ⟨y, hy⟩ : ∃ y, T0[hh]? = some y := ⟨_, List.getElem?_eq_getElem (by omega)⟩
      obtain ⟨q, hq⟩ : ∃ q, lt x y = q := ⟨_, rfl⟩
      have hla : ltAt T0 pc hh = q := by rw [ltAt_at hx hy]; exact hq
      have HTRUE : Hid (q = false → ∃ f, j - (hh + 1) < f ∧ R = bsG (fun c => !(ltAt T0 (n1 - 1 - c) c)) f (hh + 1) j) := Lib.hid fun e => by
        obtain ⟨f, hf, hr⟩ := HI.out.2
        obtain ⟨f', rfl⟩ : ∃ f', f = f' + 1 := ⟨f - 1, by omega⟩
        refine ⟨f', by omega, ?_⟩
        rw [hr, bsG, if_pos hlt, hhe, if_pos (by simp [hpce, hla, e])]
      have HFALSE : Hid (q = true → ∃ f, hh - i < f ∧ R = bsG (fun c => !(ltAt T0 (n1 - 1 - c) c)) f i hh) := Lib.hid fun e => by
        obtain ⟨f, hf, hr⟩ := HI.out.2
        obtain ⟨f', rfl⟩ : ∃ f', f = f' + 1 := ⟨f - 1, by omega⟩
        refine ⟨f', by omega, ?_⟩
        rw [hr, bsG, if_pos hlt, hhe, if_neg (by simp [hpce, hla, e])]
      have HCMP := Lib.hid fun W => cmp1 x y W
      obtain ⟨cv, hcv⟩ : ∃ cv, cmpT x y = cv := ⟨_, rfl⟩
      have HQ : Hid (decide (cv < 0) = q) := Lib.hid (by rw [← hcv, cmp_lt]; exact hq)
      rw [hcv] at HCMP
      have HCX := Lib.hid (fun (W : World) (h : W.ownsRow base TM 7 (.slice (some ⟨g, 0, none⟩) n c) n (T0.flatMap encT)) => own_getT h hx)
      have HCY := Lib.hid (fun (W : World) (h : W.ownsRow base TM 7 (.slice (some ⟨g, 0, none⟩) n c) n (T0.flatMap encT)) => own_getT h hy)
      have hS0 : Srt base g c n w wr.drew T0 := HI.out.1.below (below_drewN 1 wr)
      have HS0 := Lib.hid hS0
      have hhI : (hh : Int) < (n : Int) := by omega
      have haI : (pc : Int) < (n : Int) := by omega
      have haN : pc < n := by omega
      obtain ⟨x1, x2, x3, x4, x5, x6, x7⟩ := x
      obtain ⟨y1, y2, y3, y4, y5, y6, y7⟩ := y
      dsimp only [aggT] at HCX HCY HCMP
      clear hS0 hx hy hl0 hq hcv hla hlt hhe hpb hpce
      go_wp2_with fail
      have hS0 := HS0.out
      clear eh d1 d1n
      have hb1 := HHB.out.1
      have hb2 := HHB.out.2
      refine wp_region_one (fun W => Srt base g c n w W T0) (fun u v => Below u.heap.size u v) (fun a i => match i with
          | 0 => (fun v _ => v = .func (.func 31) #[] #[])
          | 1 => (fun v _ => v = .slice (some ⟨g, 0, none⟩) n c)
          | 2 => (fun v _ => v = .int .i64 (p1 : Int))
          | 3 => (fun v _ => v = .int .i64 (hh : Int))
          | 4 => (fun v _ => v = .int .i64 (pc : Int))
          | 5 => (fun v _ => v = .pointer (some ⟨g, pc * 7, none⟩))
          | 6 => (fun v _ => v = .agg #[.int .i64 x1, .int .i64 x2, .int .i64 x3, .int .i64 x4, .int .i64 x5, .int .i64 x6, .int .i64 x7])
          | 7 => (fun v _ => v = .slice (some ⟨g, 0, none⟩) n c)
          | 8 => (fun v _ => v = .int .i64 (hh : Int))
          | 9 => (fun v _ => v = .pointer (some ⟨g, hh * 7, none⟩))
          | 10 => (fun v _ => v = .agg #[.int .i64 y1, .int .i64 y2, .int .i64 y3, .int .i64 y4, .int .i64 y5, .int .i64 y6, .int .i64 y7])
          | 11 => (fun v _ => v = .int .i64 cv)
          | 12 => (fun v _ => v = .bool q)
          | 13 => (fun v _ => v = .bool (!q))
          | _ => (fun _ _ => True)) #[0, 0, 0, 0, 12, 30, 62, 0, 0, 384, 896, 2047, 4095, 8191] #[0, 0, 0, 0, 12, 18, 32, 0, 0, 384, 512, 1089, 2048, 4096] 16383 (by kernel_rfl) 14 rfl (fun m hm => by subst hm; kernel_rfl) (by kernel_rfl) (fun w => Below.refl _ w) (fun u v w h1 h2 => below2 h1 h2) ?_ (hS0) ?_ ?_
      · intro i hi
        rcases (by omega : i = 0 ∨ i = 1 ∨ i = 2 ∨ i = 3 ∨ i = 4 ∨ i = 5 ∨ i = 6 ∨ i = 7 ∨ i = 8 ∨ i = 9 ∨ i = 10 ∨ i = 11 ∨ i = 12 ∨ i = 13) with rfl | rfl | rfl | rfl | rfl | rfl | rfl | rfl | rfl | rfl | rfl | rfl | rfl | rfl
        · exact fun v w w' h hr => by exact h
        · exact fun v w w' h hr => by exact h
        · exact fun v w w' h hr => by exact h
        · exact fun v w w' h hr => by exact h
        · exact fun v w w' h hr => by exact h
        · exact fun v w w' h hr => by exact h
        · exact fun v w w' h hr => by exact h
        · exact fun v w w' h hr => by exact h
        · exact fun v w w' h hr => by exact h
        · exact fun v w w' h hr => by exact h
        · exact fun v w w' h hr => by exact h
        · exact fun v w w' h hr => by exact h
        · exact fun v w w' h hr => by exact h
        · exact fun v w w' h hr => by exact h
      · intro i hi
        rcases (by omega : i = 0 ∨ i = 1 ∨ i = 2 ∨ i = 3 ∨ i = 4 ∨ i = 5 ∨ i = 6 ∨ i = 7 ∨ i = 8 ∨ i = 9 ∨ i = 10 ∨ i = 11 ∨ i = 12 ∨ i = 13) with rfl | rfl | rfl | rfl | rfl | rfl | rfl | rfl | rfl | rfl | rfl | rfl | rfl | rfl
        · -- 0: Op.move (Operand.tmp 4)
          intro l hl vs W hS hR hp
          obtain rfl : l = [] := hl.symm.trans (by kernel_rfl)
          clear hp hl
          refine opgoal (_) (some 158) rfl rfl fun K hK => ?_
          refine Runs.mk ?_
          simp only [putAll]
          go_simp
          refine hK _ _ ?_ hS ((fun w => Below.refl _ w) W) _ rfl rfl
          first | rfl | go_simp | simp
        · -- 1: Op.move (Operand.tmp 0)
          intro l hl vs W hS hR hp
          obtain rfl : l = [] := hl.symm.trans (by kernel_rfl)
          clear hp hl
          refine opgoal (_) (some 159) rfl rfl fun K hK => ?_
          refine Runs.mk ?_
          simp only [putAll]
          go_simp
          refine hK _ _ ?_ hS ((fun w => Below.refl _ w) W) _ rfl rfl
          first | rfl | go_simp | simp
        · -- 2: Op.move (Operand.tmp 22)
          intro l hl vs W hS hR hp
          obtain rfl : l = [] := hl.symm.trans (by kernel_rfl)
          clear hp hl
          refine opgoal (_) (some 160) rfl rfl fun K hK => ?_
          refine Runs.mk ?_
          simp only [putAll]
          go_simp
          refine hK _ _ ?_ hS ((fun w => Below.refl _ w) W) _ rfl rfl
          first | rfl | go_simp | simp
        · -- 3: Op.move (Operand.tmp 23)
          intro l hl vs W hS hR hp
          obtain rfl : l = [] := hl.symm.trans (by kernel_rfl)
          clear hp hl
          refine opgoal (_) (some 161) rfl rfl fun K hK => ?_
          refine Runs.mk ?_
          simp only [putAll]
          go_simp
          refine hK _ _ ?_ hS ((fun w => Below.refl _ w) W) _ rfl rfl
          first | rfl | go_simp | simp
        · -- 4: Op.binOp BinOp.sub 3 (Operand.tmp 160) (Operand.tmp 161) 3
          intro l hl vs W hS hR hp
          obtain rfl : l = [(2, 160), (3, 161)] := hl.symm.trans (by kernel_rfl)
          have p2 : vs 2 = _ := hp 2 (by decide) (by decide)
          have p3 : vs 3 = _ := hp 3 (by decide) (by decide)
          clear hp hl
          refine opgoal (_) (some 162) rfl rfl fun K hK => ?_
          have hw := HPC.out
          refine Runs.mk ?_
          simp only [putAll]
          go_simp
          refine hK _ _ ?_ hS ((fun w => Below.refl _ w) W) _ rfl rfl
          first | rfl | go_simp | simp
        · -- 5: Op.indexAddr 61 (Operand.tmp 159) (Operand.tmp 162)
          intro l hl vs W hS hR hp
          obtain rfl : l = [(1, 159), (2, 160), (3, 161), (4, 162)] := hl.symm.trans (by kernel_rfl)
          have p1 : vs 1 = _ := hp 1 (by decide) (by decide)
          have p4 : vs 4 = _ := hp 4 (by decide) (by decide)
          clear hp hl
          refine opgoal (_) (some 163) rfl rfl fun K hK => ?_
          refine Runs.mk ?_
          simp only [putAll]
          go_simp
          refine hK _ _ ?_ hS ((fun w => Below.refl _ w) W) _ rfl rfl
          first | rfl | go_simp | simp
        · -- 6: Op.load 66 (Operand.tmp 163)
          intro l hl vs W hS hR hp
          obtain rfl : l = [(1, 159), (2, 160), (3, 161), (4, 162), (5, 163)] := hl.symm.trans (by kernel_rfl)
          have p5 : vs 5 = _ := hp 5 (by decide) (by decide)
          clear hp hl
          refine opgoal (_) (some 164) rfl rfl fun K hK => ?_
          obtain ⟨e0, e1, e2, e3, e4, e5, e6⟩ := HCX.out W hS.1
          refine Runs.mk ?_
          simp only [putAll]
          go_simp
          refine hK _ _ ?_ hS ((fun w => Below.refl _ w) W) _ rfl rfl
          first | rfl | go_simp | simp
        · -- 7: Op.move (Operand.tmp 0)
          intro l hl vs W hS hR hp
          obtain rfl : l = [] := hl.symm.trans (by kernel_rfl)
          clear hp hl
          refine opgoal (_) (some 165) rfl rfl fun K hK => ?_
          refine Runs.mk ?_
          simp only [putAll]
          go_simp
          refine hK _ _ ?_ hS ((fun w => Below.refl _ w) W) _ rfl rfl
          first | rfl | go_simp | simp
        · -- 8: Op.move (Operand.tmp 23)
          intro l hl vs W hS hR hp
          obtain rfl : l = [] := hl.symm.trans (by kernel_rfl)
          clear hp hl
          refine opgoal (_) (some 166) rfl rfl fun K hK => ?_
          refine Runs.mk ?_
          simp only [putAll]
          go_simp
          refine hK _ _ ?_ hS ((fun w => Below.refl _ w) W) _ rfl rfl
          first | rfl | go_simp | simp
        · -- 9: Op.indexAddr 61 (Operand.tmp 165) (Operand.tmp 166)
          intro l hl vs W hS hR hp
          obtain rfl : l = [(7, 165), (8, 166)] := hl.symm.trans (by kernel_rfl)
          have p7 : vs 7 = _ := hp 7 (by decide) (by decide)
          have p8 : vs 8 = _ := hp 8 (by decide) (by decide)
          clear hp hl
          refine opgoal (_) (some 167) rfl rfl fun K hK => ?_
          refine Runs.mk ?_
          simp only [putAll]
          go_simp
          refine hK _ _ ?_ hS ((fun w => Below.refl _ w) W) _ rfl rfl
          first | rfl | go_simp | simp
        · -- 10: Op.load 66 (Operand.tmp 167)
          intro l hl vs W hS hR hp
          obtain rfl : l = [(7, 165), (8, 166), (9, 167)] := hl.symm.trans (by kernel_rfl)
          have p9 : vs 9 = _ := hp 9 (by decide) (by decide)
          clear hp hl
          refine opgoal (_) (some 168) rfl rfl fun K hK => ?_
          obtain ⟨e0, e1, e2, e3, e4, e5, e6⟩ := HCY.out W hS.1
          refine Runs.mk ?_
          simp only [putAll]
          go_simp
          refine hK _ _ ?_ hS ((fun w => Below.refl _ w) W) _ rfl rfl
          first | rfl | go_simp | simp
        · -- 11: Op.call { callee := Callee.value (Operand.tmp 158), args := #[Operand.tmp 164, Operand.tmp 168], argTypes := #[66, 66] }
          intro l hl vs W hS hR hp
          obtain rfl : l = [(0, 158), (1, 159), (2, 160), (3, 161), (4, 162), (5, 163), (6, 164), (7, 165), (8, 166), (9, 167), (10, 168)] := hl.symm.trans (by kernel_rfl)
          have p0 : vs 0 = _ := hp 0 (by decide) (by decide)
          have p6 : vs 6 = _ := hp 6 (by decide) (by decide)
          have p10 : vs 10 = _ := hp 10 (by decide) (by decide)
          clear hp hl
          refine opgoal (_) (some 169) rfl rfl fun K hK => ?_
          refine Runs.mk ?_
          simp only [putAll]
          go_simp
          refine (HCMP.out W).mono ?_
          rintro e w' ⟨rfl, hb⟩
          go_simp
          exact hK _ _ rfl (hS.below hb) hb _ rfl rfl
        · -- 12: Op.binOp BinOp.lss 3 (Operand.tmp 169) (Operand.const (Value.int IntKind.i64 0)) 3
          intro l hl vs W hS hR hp
          obtain rfl : l = [(0, 158), (1, 159), (2, 160), (3, 161), (4, 162), (5, 163), (6, 164), (7, 165), (8, 166), (9, 167), (10, 168), (11, 169)] := hl.symm.trans (by kernel_rfl)
          have p11 : vs 11 = _ := hp 11 (by decide) (by decide)
          clear hp hl
          refine opgoal (_) (some 170) rfl rfl fun K hK => ?_
          have hq9 := HQ.out
          refine Runs.mk ?_
          simp only [putAll]
          go_simp
          refine hK _ _ ?_ hS ((fun w => Below.refl _ w) W) _ rfl rfl
          first | rfl | go_simp | simp
        · -- 13: Op.unOp UnOp.not 4 (Operand.tmp 170)
          intro l hl vs W hS hR hp
          obtain rfl : l = [(0, 158), (1, 159), (2, 160), (3, 161), (4, 162), (5, 163), (6, 164), (7, 165), (8, 166), (9, 167), (10, 168), (11, 169), (12, 170)] := hl.symm.trans (by kernel_rfl)
          have p12 : vs 12 = _ := hp 12 (by decide) (by decide)
          clear hp hl
          refine opgoal (_) (some 171) rfl rfl fun K hK => ?_
          refine Runs.mk ?_
          simp only [putAll]
          go_simp
          refine hK _ _ ?_ hS ((fun w => Below.refl _ w) W) _ rfl rfl
          first | rfl | go_simp | simp
      · intro l hl vs W hS hR hp
        obtain rfl : l = [(0, 158), (1, 159), (2, 160), (3, 161), (4, 162), (5, 163), (6, 164), (7, 165), (8, 166), (9, 167), (10, 168), (11, 169), (12, 170), (13, 171)] := hl.symm.trans (by kernel_rfl)
        have p0 : vs 0 = _ := hp 0 (by decide) (by decide)
        have p1 : vs 1 = _ := hp 1 (by decide) (by decide)
        have p2 : vs 2 = _ := hp 2 (by decide) (by decide)
        have p3 : vs 3 = _ := hp 3 (by decide) (by decide)
        have p4 : vs 4 = _ := hp 4 (by decide) (by decide)
        have p5 : vs 5 = _ := hp 5 (by decide) (by decide)
        have p6 : vs 6 = _ := hp 6 (by decide) (by decide)
        have p7 : vs 7 = _ := hp 7 (by decide) (by decide)
        have p8 : vs 8 = _ := hp 8 (by decide) (by decide)
        have p9 : vs 9 = _ := hp 9 (by decide) (by decide)
        have p10 : vs 10 = _ := hp 10 (by decide) (by decide)
        have p11 : vs 11 = _ := hp 11 (by decide) (by decide)
        have p12 : vs 12 = _ := hp 12 (by decide) (by decide)
        have p13 : vs 13 = _ := hp 13 (by decide) (by decide)
        clear hp hl
        simp only [putAll_mk, setAll, List.setIfInBounds_toArray, List.set_cons_succ, List.set_cons_zero, p0, p1, p2, p3, p4, p5, p6, p7, p8, p9, p10, p11, p12, p13]
        have HS8 := Lib.hid hS
        clear hS hR hS0
        cases q with
        | false =>
          have HN := Lib.hid (HTRUE.out rfl)
          go_wp2_with fail
          go_roundg (j - (hh + 1))
          case measure => omega
          case rel => exact ⟨hh + 1, j, rfl, by go_num, rfl, by omega, by omega, by omega, Lib.hid ⟨HS8.out, HN.out⟩⟩
        | true =>
          have HN := Lib.hid (HFALSE.out rfl)
          go_wp2_with fail
          go_roundg (hh - i)
          case measure => omega
          case rel => exact ⟨i, hh, rfl, rfl, rfl, by omega, by omega, by omega, Lib.hid ⟨HS8.out, HN.out⟩⟩
    · have d1 : decide ((i : Int) < (j : Int)) = false := by simp; omega
      have d1n : decide (i < j) = false := by simp; omega
      have hRi : R = i := by
        obtain ⟨f, hf, hr⟩ := HI.out.2
        obtain ⟨f', rfl⟩ : ∃ f', f = f' + 1 := ⟨f - 1, by omega⟩
        rw [hr, bsG, if_neg hlt]
      subst hRi
      have HI0 : Hid (Srt base g c n w wr T0) := Lib.hid HI.out.1
      have eE : (n1 : Int) - (R : Int) = (E : Int) := by have := HER.out; omega
      have hE9 : E ≤ 1000000 := by have := HER.out; omega
      have hR9 : R ≤ 1000000 := by have := HR.out.2; omega
      clear HI hlt hij
      go_upto_region 39 with (fail)
      clear d1 d1n
      go_cut [185] from 178 to 184 (fun s wx => s = .bool q1 ∧ wx = wr)
      case first =>
        by_cases g1 : R < m0
        · have j1 : decide ((R : Int) < (m0 : Int)) = true := by simp; omega
          have j2 : decide (R < m0) = true := by simpa using g1
          by_cases g2 : m0 < E
          · have j3 : decide ((m0 : Int) < (E : Int)) = true := by simp; omega
            have j4 : decide (m0 < E) = true := by simpa using g2
            have HB : Hid (true = q1) := Lib.hid (by rw [← HQ1.out]; simp [g1, g2])
            clear g1 g2
            go_wp2_with fail
            go_meet
            exact ⟨by rw [← HB.out], rfl⟩
          · have j3 : decide ((m0 : Int) < (E : Int)) = false := by simp; omega
            have j4 : decide (m0 < E) = false := by simpa using g2
            have HB : Hid (false = q1) := Lib.hid (by rw [← HQ1.out]; simp [g2])
            clear g1 g2
            go_wp2_with fail
            go_meet
            exact ⟨by rw [← HB.out], rfl⟩
        · have j1 : decide ((R : Int) < (m0 : Int)) = false := by simp; omega
          have j2 : decide (R < m0) = false := by simpa using g1
          have HB : Hid (false = q1) := Lib.hid (by rw [← HQ1.out]; simp [g1])
          clear g1
          go_wp2_with fail
          go_meet
          exact ⟨by rw [← HB.out], rfl⟩
      case rest =>
      obtain ⟨rfl, rfl⟩ := hcut
      go_upto_if 185 with (fail)
      go_cut [185] from 186 to 191 (fun s wx => Hid (Srt base g c n w wx T1))
      case first =>
        cases q1 with
        | true =>
          have hq := of_decide_eq_true HQ1.out
          have HC := Lib.hid (rotate_any base g c n R m0 E T0 (.func (.func 31) #[] #[]) w wc HI0.out hn hq.1 hq.2 (by have := HER.out; omega))
          have ht := HT1.out
          rw [if_pos rfl] at ht
          rw [ht] at HC
          clear hq ht
          go_wp2_with fail
          refine HC.out.mono ?_
          rintro e w5 ⟨rfl, hs⟩
          have HS := Lib.hid hs
          clear hs
          go_wp2_with fail
          go_meet
          exact HS
        | false =>
          have ht := HT1.out
          rw [if_neg (by simp)] at ht
          subst ht
          go_wp2_with fail
          go_meet
          exact HI0
      case rest =>
      have HI1 := hcut
      clear hcut
      obtain ⟨V1, hV1⟩ : ∃ V1, Hid (wc = V1) := ⟨_, Lib.hid rfl⟩
      rw [hV1.out] at HI1 ⊢
      go_upto_region 41 with (fail)
      go_cut [199] from 192 to 198 (fun s wx => s = .bool q2 ∧ wx = V1)
      case first =>
        by_cases g1 : a0 < R
        · have j1 : decide ((a0 : Int) < (R : Int)) = true := by simp; omega
          have j2 : decide (a0 < R) = true := by simpa using g1
          by_cases g2 : R < mid
          · have j3 : decide ((R : Int) < (mid : Int)) = true := by simp; omega
            have j4 : decide (R < mid) = true := by simpa using g2
            have HB : Hid (true = q2) := Lib.hid (by rw [← HQ2.out]; simp [g1, g2])
            clear g1 g2
            go_wp2_with fail
            go_meet
            exact ⟨by rw [← HB.out], rfl⟩
          · have j3 : decide ((R : Int) < (mid : Int)) = false := by simp; omega
            have j4 : decide (R < mid) = false := by simpa using g2
            have HB : Hid (false = q2) := Lib.hid (by rw [← HQ2.out]; simp [g2])
            clear g1 g2
            go_wp2_with fail
            go_meet
            exact ⟨by rw [← HB.out], rfl⟩
        · have j1 : decide ((a0 : Int) < (R : Int)) = false := by simp; omega
          have j2 : decide (a0 < R) = false := by simpa using g1
          have HB : Hid (false = q2) := Lib.hid (by rw [← HQ2.out]; simp [g1])
          clear g1
          go_wp2_with fail
          go_meet
          exact ⟨by rw [← HB.out], rfl⟩
      case rest =>
      obtain ⟨rfl, rfl⟩ := hcut
      go_upto_if 199 with (fail)
      go_cut [199] from 200 to 205 (fun s wx => Hid (Srt base g c n w wx T2))
      case first =>
        cases q2 with
        | true =>
          have hq := of_decide_eq_true HQ2.out
          have HC := Lib.hid (HIH.out a0 R mid HMID.out.2.2.1 hq.1 hq.2 HMID.out.2.2.2.2 T1 wc HI1.out)
          have ht := HT2.out
          rw [if_pos rfl] at ht
          rw [ht] at HC
          clear hq ht
          go_wp2_with fail
          refine HC.out.mono ?_
          rintro e w5 ⟨rfl, hs⟩
          have HS := Lib.hid hs
          clear hs
          go_wp2_with fail
          go_meet
          exact HS
        | false =>
          have ht := HT2.out
          rw [if_neg (by simp)] at ht
          subst ht
          go_wp2_with fail
          go_meet
          exact HI1
      case rest =>
      have HI2 := hcut
      clear hcut
      obtain ⟨V2, hV2⟩ : ∃ V2, Hid (wc = V2) := ⟨_, Lib.hid rfl⟩
      rw [hV2.out] at HI2 ⊢
      go_upto_region 43 with (fail)
      go_cut [213] from 206 to 212 (fun s wx => s = .bool q3 ∧ wx = V2)
      case first =>
        by_cases g1 : mid < E
        · have j1 : decide ((mid : Int) < (E : Int)) = true := by simp; omega
          have j2 : decide (mid < E) = true := by simpa using g1
          by_cases g2 : E < b0
          · have j3 : decide ((E : Int) < (b0 : Int)) = true := by simp; omega
            have j4 : decide (E < b0) = true := by simpa using g2
            have HB : Hid (true = q3) := Lib.hid (by rw [← HQ3.out]; simp [g1, g2])
            clear g1 g2
            go_wp2_with fail
            go_meet
            exact ⟨by rw [← HB.out], rfl⟩
          · have j3 : decide ((E : Int) < (b0 : Int)) = false := by simp; omega
            have j4 : decide (E < b0) = false := by simpa using g2
            have HB : Hid (false = q3) := Lib.hid (by rw [← HQ3.out]; simp [g2])
            clear g1 g2
            go_wp2_with fail
            go_meet
            exact ⟨by rw [← HB.out], rfl⟩
        · have j1 : decide ((mid : Int) < (E : Int)) = false := by simp; omega
          have j2 : decide (mid < E) = false := by simpa using g1
          have HB : Hid (false = q3) := Lib.hid (by rw [← HQ3.out]; simp [g1])
          clear g1
          go_wp2_with fail
          go_meet
          exact ⟨by rw [← HB.out], rfl⟩
      case rest =>
      obtain ⟨rfl, rfl⟩ := hcut
      cases q3 with
      | true =>
        have hq := of_decide_eq_true HQ3.out
        have HC := Lib.hid (HIH.out mid E b0 HMID.out.2.2.2.1 hq.1 hq.2 hb T2 wc HI2.out)
        have ht := HT3.out
        rw [if_pos rfl] at ht
        rw [ht] at HC
        clear hq ht
        go_wp2_with fail
        refine HC.out.mono ?_
        rintro e w5 ⟨rfl, hs⟩
        have HS := Lib.hid hs
        clear hs
        go_wp2_with fail
        go_end0
        exact ⟨rfl, HS.out⟩
      | false =>
        have ht := HT3.out
        rw [if_neg (by simp)] at ht
        subst ht
        go_wp2_with fail
        go_end0
        exact ⟨rfl, HI2.out⟩
theorem sym_any (base g c n : Nat) (w : World) (hn : n ≤ 1000000) : ∀ f, SymOk base g c n w f
  | 0 => fun a0 m0 b0 hf h1 h2 hb T W h => absurd hf (by omega)
  | f + 1 => fun a0 m0 b0 hf h1 h2 hb T W h => by
    by_cases c1 : m0 - a0 = 1
    · obtain rfl : m0 = a0 + 1 := by omega
      rw [symM, if_pos c1]
      exact sym1_any base g c n a0 b0 T w W h hn (by omega) hb
    · by_cases c2 : b0 - m0 = 1
      · obtain rfl : b0 = m0 + 1 := by omega
        rw [symM, if_neg c1, if_pos c2]
        exact sym2_any base g c n a0 m0 T w W h hn (by omega) hb
      · exact symR_any base g c n a0 m0 b0 f T w W h hn (sym_any base g c n w hn f) hf (by omega) (by omega) hb
end Go.Proofs.Ytbifmdepkbgnjaa.Wh

/- wheel: the sort's walk: the stable sort; Clone; Keys. -/
import Derived.Test.YtbifmdepkbgnjaaWhX
import Derived.Test.YtbifmdepkbgnjaaWhE
import Derived.Lib.LazyBuf
namespace Go.Proofs.Ytbifmdepkbgnjaa.Wh
open Go.RowKit Go.Proofs.Ytbifmdepkbgnjaa.L Go.Proofs.Ytbifmdepkbgnjaa.R Go.Proofs.Ytbifmdepkbgnjaa.A Go.Proofs.Ytbifmdepkbgnjaa.S Go.Proofs.Ytbifmdepkbgnjaa.T Go.Proofs.Ytbifmdepkbgnjaa.C Go.Proofs.Ytbifmdepkbgnjaa.G Go.Proofs.Ytbifmdepkbgnjaa.E Go.Proofs.Ytbifmdepkbgnjaa.F
set_option linter.unusedVariables false
set_option linter.unusedSimpArgs false

/-- blocks of 20, each sorted by insertion. -/
def insB (n : Nat) : Nat → List Tm → Nat → List Tm
  | 0, T, a => T
  | f + 1, T, a => if a + 20 ≤ n then insB n f (insS T a 19) (a + 20) else insS T a (n - (a + 1))
theorem insB_len (n : Nat) : ∀ f T a, (insB n f T a).length = T.length
  | 0, T, a => rfl
  | f + 1, T, a => by
    rw [insB]
    split
    · rw [insB_len n f, insS_len]
    · rw [insS_len]
/-- blocks of s are merged, two and two. -/
def mrgB (n s : Nat) : Nat → List Tm → Nat → List Tm
  | 0, T, a => T
  | f + 1, T, a => if a + 2 * s ≤ n then mrgB n s f (symM (2 * s) T a (a + s) (a + 2 * s)) (a + 2 * s) else if a + s < n then symM (n - a) T a (a + s) n else T
theorem mrgB_len (n s : Nat) : ∀ f T a, (mrgB n s f T a).length = T.length
  | 0, T, a => rfl
  | f + 1, T, a => by
    rw [mrgB]
    split
    · rw [mrgB_len n s f, symM_len]
    · split
      · rw [symM_len]
      · rfl
def stbG (n : Nat) : Nat → List Tm → Nat → List Tm
  | 0, T, s => T
  | f + 1, T, s => if s < n then stbG n f (mrgB n s (n + 1) T 0) (2 * s) else T
theorem stbG_len (n : Nat) : ∀ f T s, (stbG n f T s).length = T.length
  | 0, T, s => rfl
  | f + 1, T, s => by
    rw [stbG]
    split
    · rw [stbG_len n f, mrgB_len]
    · rfl
def stable (n : Nat) (T : List Tm) : List Tm := stbG n (n + 1) (insB n (n + 1) T 0) 20
theorem stable_len (n : Nat) (T : List Tm) : (stable n T).length = T.length := by unfold stable; rw [stbG_len, insB_len]
set_option maxHeartbeats 8000000 in
set_option maxRecDepth 100000 in
theorem stable_any (base g c n : Nat) (T : List Tm) (w W0 : World) (h : Srt base g c n w W0 T) (hn : n ≤ 100000) :
    Calls Try.prog 36 #[.slice (some ⟨g, 0, none⟩) n c, .int .i64 n, .func (.func 31) #[] #[]] W0 fun e w' => e = .returned (.tuple #[]) ∧ Srt base g c n w w' (stable n T) := by
  have HH := Lib.hid h
  obtain ⟨R1, hR1⟩ : ∃ R1, insB n (n + 1) T 0 = R1 := ⟨_, rfl⟩
  obtain ⟨R2, hR2⟩ : ∃ R2, stable n T = R2 := ⟨_, rfl⟩
  have HR1 := Lib.hid hR1
  have HR2 : Hid (stbG n (n + 1) R1 20 = R2) := Lib.hid (by rw [← hR1]; exact hR2)
  have HINS := Lib.hid (fun (a b : Nat) (T : List Tm) (W : World) (h : Srt base g c n w W T) (h1 : a ≤ b) (h2 : b ≤ n) => ins_any base g c n a b T w W h (by omega) h1 h2)
  have HSYM := Lib.hid (sym_any base g c n w (by omega : n ≤ 1000000))
  rw [hR2]
  clear h hR1 hR2
  go_enter Try.func36, Try.ntmps36
  go_wp2_with fail
  go_loopg [7, 8] n (fun gk av bv wr => ∃ (a : Nat) (T' : List Tm), gk = n - a ∧ av = .int .i64 a ∧ bv = .int .i64 ((a : Int) + 20) ∧ a ≤ n ∧ Hid (Srt base g c n w wr T' ∧ ∃ f, n - a < f ∧ insB n f T' a = R1))
  case atStart => exact ⟨0, T, rfl, rfl, rfl, by omega, Lib.hid ⟨HH.out, n + 1, by omega, HR1.out⟩⟩
  case round =>
    obtain ⟨a, T', hgk, rfl, rfl, han, HI⟩ := hrel
    by_cases hlt : a + 20 ≤ n
    · obtain ⟨b, hb⟩ : ∃ b, a + 20 = b := ⟨_, rfl⟩
      have eb : (a : Int) + 20 = (b : Int) := by omega
      rw [eb]
      have d1 : decide ((b : Int) ≤ (n : Int)) = true := by simp; omega
      have d1n : decide (b ≤ n) = true := by simp; omega
      have HF : Hid (∃ f, n - b < f ∧ insB n f (insS T' a 19) b = R1) := Lib.hid (by
        obtain ⟨f, hf, hr⟩ := HI.out.2
        obtain ⟨f', rfl⟩ : ∃ f', f = f' + 1 := ⟨f - 1, by omega⟩
        rw [insB, if_pos hlt, hb] at hr
        exact ⟨f', by omega, hr⟩)
      have hS := HINS.out a b T' wr HI.out.1 (by omega) (by omega)
      rw [show b - (a + 1) = 19 by omega] at hS
      have HS := Lib.hid hS
      have HB : Hid (n - b < gk ∧ b ≤ n) := Lib.hid (by omega)
      have hb9 : b ≤ 100000 := by omega
      clear hS hb eb hlt
      go_wp2_with fail
      refine HS.out.mono ?_
      rintro e w1 ⟨rfl, hs⟩
      have HS1 := Lib.hid hs
      clear hs
      go_wp2_with fail
      go_roundg (n - b)
      case measure => exact HB.out.1
      case rel => exact ⟨b, _, rfl, rfl, by go_num, HB.out.2, Lib.hid ⟨HS1.out, HF.out⟩⟩
    · have d1 : decide ((a : Int) + 20 ≤ (n : Int)) = false := by simp; omega
      have hR : insS T' a (n - (a + 1)) = R1 := by
        obtain ⟨f, hf, hr⟩ := HI.out.2
        obtain ⟨f', rfl⟩ : ∃ f', f = f' + 1 := ⟨f - 1, by omega⟩
        rw [insB, if_neg hlt] at hr
        exact hr
      have hS := HINS.out a n T' wr HI.out.1 han (Nat.le_refl _)
      rw [hR] at hS
      have HS := Lib.hid hS
      clear hS hR hlt HI
      go_wp2_with fail
      refine HS.out.mono ?_
      rintro e w1 ⟨rfl, hs⟩
      have HS1 := Lib.hid hs
      clear hs d1
      go_wp2_with fail
      go_loopg [6] (2 * n + 40 - 20) (fun gk sv wr => ∃ (s : Nat) (T' : List Tm), gk = 2 * n + 40 - s ∧ sv = .int .i64 s ∧ 1 ≤ s ∧ s ≤ 2 * n + 20 ∧ Hid (Srt base g c n w wr T' ∧ ∃ f, n < s + f ∧ stbG n f T' s = R2))
      case atStart => exact ⟨20, R1, rfl, rfl, by omega, by omega, Lib.hid ⟨HS1.out, n + 1, by omega, HR2.out⟩⟩
      case round =>
        obtain ⟨s, T', hgk2, rfl, hs1, hs2, HI⟩ := hrel
        by_cases hsn : s < n
        · have d2 : decide ((s : Int) < (n : Int)) = true := by simp; omega
          have d2n : decide (s < n) = true := by simpa using hsn
          obtain ⟨R3, hR3⟩ : ∃ R3, mrgB n s (n + 1) T' 0 = R3 := ⟨_, rfl⟩
          have HR3 := Lib.hid hR3
          have HF : Hid (∃ f, n < 2 * s + f ∧ stbG n f R3 (2 * s) = R2) := Lib.hid (by
            obtain ⟨f, hf, hr⟩ := HI.out.2
            obtain ⟨f', rfl⟩ : ∃ f', f = f' + 1 := ⟨f - 1, by omega⟩
            rw [stbG, if_pos hsn, hR3] at hr
            exact ⟨f', by omega, hr⟩)
          obtain ⟨s2, hs2e⟩ : ∃ s2, 2 * s = s2 := ⟨_, rfl⟩
          rw [hs2e] at HF
          have es : (2 : Int) * (s : Int) = (s2 : Int) := by omega
          have es' : (s : Int) * 2 = (s2 : Int) := by omega
          have HSE := Lib.hid hs2e
          have HES := Lib.hid (And.intro es es')
          have HI2 : Hid (Srt base g c n w wr T') := Lib.hid HI.out.1
          clear hR3 hs2e HI es'
          go_wp2_with fail
          clear es d2 d2n
          go_loopg [7, 8] n (fun gk av bv wr => ∃ (a : Nat) (T' : List Tm), gk = n - a ∧ av = .int .i64 a ∧ bv = .int .i64 ((a : Int) + (s2 : Int)) ∧ a ≤ n ∧ Hid (Srt base g c n w wr T' ∧ ∃ f, n - a < f ∧ mrgB n s f T' a = R3))
          case atStart => exact ⟨0, T', rfl, rfl, by simp, by omega, Lib.hid ⟨HI2.out, n + 1, by omega, HR3.out⟩⟩
          case round =>
            obtain ⟨a, T2, hgk3, rfl, rfl, han, HI⟩ := hrel
            have hse := HSE.out
            obtain ⟨m, hm⟩ : ∃ m, a + s = m := ⟨_, rfl⟩
            have em : (a : Int) + (s : Int) = (m : Int) := by omega
            by_cases hlt : a + s2 ≤ n
            · obtain ⟨b, hb⟩ : ∃ b, a + s2 = b := ⟨_, rfl⟩
              have eb : (a : Int) + (s2 : Int) = (b : Int) := by omega
              rw [eb]
              have d3 : decide ((b : Int) ≤ (n : Int)) = true := by simp; omega
              have d3n : decide (b ≤ n) = true := by simp; omega
              have HF3 : Hid (∃ f, n - b < f ∧ mrgB n s f (symM s2 T2 a m b) b = R3) := Lib.hid (by
                obtain ⟨f, hf, hr⟩ := HI.out.2
                obtain ⟨f', rfl⟩ : ∃ f', f = f' + 1 := ⟨f - 1, by omega⟩
                rw [mrgB, if_pos (by omega), hse, hb, hm] at hr
                exact ⟨f', by omega, hr⟩)
              have HS := Lib.hid (HSYM.out s2 a m b (by omega) (by omega) (by omega) (by omega) T2 wr HI.out.1)
              have HB : Hid (n - b < gk ∧ b ≤ n) := Lib.hid (by omega)
              have hb9 : b ≤ 100000 := by omega
              have hs29 : s2 ≤ 300000 := by omega
              have hes2 := HES.out.1
              clear hb eb hlt hm hse
              go_wp2_with fail
              refine HS.out.mono ?_
              rintro e w1 ⟨rfl, hs⟩
              have HS1 := Lib.hid hs
              clear hs
              go_wp2_with fail
              go_roundg (n - b)
              case measure => exact HB.out.1
              case rel => exact ⟨b, _, rfl, rfl, by go_num, HB.out.2, Lib.hid ⟨HS1.out, HF3.out⟩⟩
            · have d3 : decide ((a : Int) + (s2 : Int) ≤ (n : Int)) = false := by simp; omega
              have HB4 : Hid (2 * n + 40 - s2 < 2 * n + 40 - s ∧ s2 ≤ 2 * n + 20 ∧ 1 ≤ s2) := Lib.hid (by omega)
              have hes2 := HES.out.2
              have hm9 : m ≤ 400000 := by omega
              by_cases hmn : m < n
              · have d4 : decide ((m : Int) < (n : Int)) = true := by simp; omega
                have d4n : decide (m < n) = true := by simpa using hmn
                have hR : symM (n - a) T2 a m n = R3 := by
                  obtain ⟨f, hf, hr⟩ := HI.out.2
                  obtain ⟨f', rfl⟩ : ∃ f', f = f' + 1 := ⟨f - 1, by omega⟩
                  rw [mrgB, if_neg (by omega), if_pos (by omega), hm] at hr
                  exact hr
                have hS := HSYM.out (n - a) a m n (Nat.le_refl _) (by omega) hmn (Nat.le_refl _) T2 wr HI.out.1
                rw [hR] at hS
                have HS := Lib.hid hS
                clear hS hR hlt hm hse hmn HI
                go_wp2_with fail
                refine HS.out.mono ?_
                rintro e w1 ⟨rfl, hs⟩
                have HS1 := Lib.hid hs
                clear hs
                go_wp2_with fail
                go_roundg (2 * n + 40 - s2)
                case measure => rw [hgk2]; exact HB4.out.1
                case rel => exact ⟨s2, R3, rfl, rfl, HB4.out.2.2, HB4.out.2.1, Lib.hid ⟨HS1.out, HF.out⟩⟩
              · have d4 : decide ((m : Int) < (n : Int)) = false := by simp; omega
                have d4n : decide (m < n) = false := by simpa using hmn
                have hR : T2 = R3 := by
                  obtain ⟨f, hf, hr⟩ := HI.out.2
                  obtain ⟨f', rfl⟩ : ∃ f', f = f' + 1 := ⟨f - 1, by omega⟩
                  rw [mrgB, if_neg (by omega), if_neg (by omega)] at hr
                  exact hr
                have HS1 : Hid (Srt base g c n w wr R3) := Lib.hid (by rw [← hR]; exact HI.out.1)
                clear hR hlt hm hse hmn HI
                go_wp2_with fail
                go_roundg (2 * n + 40 - s2)
                case measure => rw [hgk2]; exact HB4.out.1
                case rel => exact ⟨s2, R3, rfl, rfl, HB4.out.2.2, HB4.out.2.1, Lib.hid ⟨HS1.out, HF.out⟩⟩
        · have d2 : decide ((s : Int) < (n : Int)) = false := by simp; omega
          have d2n : decide (s < n) = false := by simpa using hsn
          have hR : T' = R2 := by
            obtain ⟨f, hf, hr⟩ := HI.out.2
            cases f with
            | zero => exact hr
            | succ f' => rw [stbG, if_neg hsn] at hr; exact hr
          have HS1 : Hid (Srt base g c n w wr R2) := Lib.hid (by rw [← hR]; exact HI.out.1)
          clear hR HI hsn
          go_wp2_with fail
          go_end0
          exact ⟨rfl, HS1.out⟩
end Go.Proofs.Ytbifmdepkbgnjaa.Wh

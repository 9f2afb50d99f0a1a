/- The plain side of the check sum: bit by bit, by half bytes, and that differing windows differ. -/
import Derived.Laws.BitsLemmas
namespace Go.Proofs.Ytljdiaokjocfpaa.Crc

def poly : Nat := 3988292384
/-- one bit. -/
def f1 (s : Nat) : Nat := if s % 2 = 1 then (s / 2) ^^^ poly else s / 2
def f4 (s : Nat) : Nat := f1 (f1 (f1 (f1 s)))
def f8 (s : Nat) : Nat := f4 (f4 s)
def byte (s c : Nat) : Nat := f8 (s ^^^ c)
def bytes (s : Nat) : List Nat → Nat
  | [] => s
  | c :: l => bytes (byte s c) l
/-- the reference's bit, on a state that the byte is not yet part of. -/
def r1 (s b : Nat) : Nat := if s % 2 ≠ b then (s / 2) ^^^ poly else s / 2
def half (s : Nat) : Nat := (s / 16) ^^^ f4 (s % 16)

theorem poly_lt : poly < 2 ^ 32 := by decide
theorem f1_lt {s : Nat} (h : s < 2 ^ 32) : f1 s < 2 ^ 32 := by
  unfold f1
  split
  · exact Nat.xor_lt_two_pow (by omega) poly_lt
  · omega
theorem f4_lt {s : Nat} (h : s < 2 ^ 32) : f4 s < 2 ^ 32 := f1_lt (f1_lt (f1_lt (f1_lt h)))
theorem f8_lt {s : Nat} (h : s < 2 ^ 32) : f8 s < 2 ^ 32 := f4_lt (f4_lt h)
theorem byte_lt {s c : Nat} (h : s < 2 ^ 32) (hc : c < 256) : byte s c < 2 ^ 32 := f8_lt (Nat.xor_lt_two_pow h (by omega))
theorem bytes_lt (l : List Nat) : ∀ {s : Nat}, s < 2 ^ 32 → (∀ c ∈ l, c < 256) → bytes s l < 2 ^ 32 := by
  induction l with
  | nil => intro s h _; exact h
  | cons c l ih => intro s h hl; exact ih (byte_lt h (hl c (by simp))) fun d hd => hl d (by simp [hd])
theorem bytes_append (a b : List Nat) : ∀ s, bytes s (a ++ b) = bytes (bytes s a) b := by
  induction a with
  | nil => intro s; rfl
  | cons c l ih => intro s; exact ih _

theorem xor_mod2 (a b : Nat) : (a ^^^ b) % 2 = (a % 2 + b % 2) % 2 := by
  have h := Nat.xor_mod_two_pow (a := a) (b := b) (n := 1)
  simp only [Nat.pow_one] at h
  rw [h]
  have ha : a % 2 = 0 ∨ a % 2 = 1 := by omega
  have hb : b % 2 = 0 ∨ b % 2 = 1 := by omega
  rcases ha with ha | ha <;> rcases hb with hb | hb <;> rw [ha, hb] <;> rfl
theorem xor_div2 (a b : Nat) : (a ^^^ b) / 2 = (a / 2) ^^^ (b / 2) := by
  have h := Nat.xor_div_two_pow (a := a) (b := b) (n := 1)
  simpa using h
theorem xor4 (a b c : Nat) : (a ^^^ c) ^^^ (b ^^^ c) = a ^^^ b := by
  rw [Nat.xor_comm b c, Nat.xor_assoc, ← Nat.xor_assoc c c b, Nat.xor_self, Nat.zero_xor]
theorem f1_xor (a b : Nat) : f1 (a ^^^ b) = f1 a ^^^ f1 b := by
  unfold f1
  rw [xor_mod2, xor_div2]
  have ha : a % 2 = 0 ∨ a % 2 = 1 := by omega
  have hb : b % 2 = 0 ∨ b % 2 = 1 := by omega
  rcases ha with ha | ha <;> rcases hb with hb | hb <;> rw [ha, hb] <;> simp
  · rw [Nat.xor_assoc]
  · rw [Nat.xor_assoc, Nat.xor_comm (b / 2) poly, Nat.xor_assoc]
  · rw [xor4]
theorem f4_xor (a b : Nat) : f4 (a ^^^ b) = f4 a ^^^ f4 b := by simp only [f4, f1_xor]
theorem f8_xor (a b : Nat) : f8 (a ^^^ b) = f8 a ^^^ f8 b := by simp only [f8, f4_xor]
theorem f4_high (q : Nat) : f4 (q * 16) = q := by
  have h1 : f1 (q * 16) = q * 8 := by unfold f1; rw [if_neg (by omega)]; omega
  have h2 : f1 (q * 8) = q * 4 := by unfold f1; rw [if_neg (by omega)]; omega
  have h3 : f1 (q * 4) = q * 2 := by unfold f1; rw [if_neg (by omega)]; omega
  have h4 : f1 (q * 2) = q := by unfold f1; rw [if_neg (by omega)]; omega
  simp only [f4, h1, h2, h3, h4]
theorem split16 (s : Nat) : s = (s / 16 * 16) ^^^ (s % 16) := by
  have h := Nat.two_pow_add_eq_or_of_lt (i := 4) (b := s % 16) (by omega) (s / 16)
  have hx : (s / 16 * 16) ^^^ (s % 16) = (s / 16 * 16) ||| (s % 16) := by
    apply Nat.eq_of_testBit_eq
    intro i
    rw [Nat.testBit_xor, Nat.testBit_or]
    by_cases hi : i < 4
    · have : (s / 16 * 16).testBit i = false := by
        have e : s / 16 * 16 = 2 ^ 4 * (s / 16) := by omega
        rw [e, Nat.testBit_two_pow_mul]
        simp; omega
      simp [this]
    · have : (s % 16).testBit i = false := by
        apply Nat.testBit_lt_two_pow
        have : 2 ^ 4 ≤ 2 ^ i := Nat.pow_le_pow_right (by decide) (by omega)
        omega
      simp [this]
  rw [hx]
  have e : s / 16 * 16 = 2 ^ 4 * (s / 16) := by omega
  rw [e, ← h]
  omega
/-- half a byte by the table is four bits. -/
theorem half_eq (s : Nat) : half s = f4 s := by
  unfold half
  conv => rhs; rw [split16 s, f4_xor, f4_high]
theorem f8_half (s : Nat) : f8 s = half (half s) := by simp only [half_eq, f8]

/-! ### the reference's way: bit k of the byte against the lowest bit of the state -/
def rk (c : Nat) : Nat → Nat → Nat
  | 0, s => s
  | k + 1, s => r1 (rk c k s) (c / 2 ^ k % 2)
/-- after k bits the reference's state is the machine's, less what is left of the byte. -/
def fk (s : Nat) : Nat → Nat
  | 0 => s
  | k + 1 => f1 (fk s k)
theorem rk_eq (c s : Nat) : ∀ k, rk c k s ^^^ (c / 2 ^ k) = fk (s ^^^ c) k := by
  intro k
  induction k with
  | zero => simp [rk, fk]
  | succ k ih =>
    show r1 (rk c k s) (c / 2 ^ k % 2) ^^^ (c / 2 ^ (k + 1)) = f1 (fk (s ^^^ c) k)
    rw [← ih, f1_xor]
    have hd : c / 2 ^ (k + 1) = c / 2 ^ k / 2 := by rw [Nat.pow_succ, Nat.div_div_eq_div_mul]
    rw [hd]
    unfold r1 f1
    have ha : (rk c k s) % 2 = 0 ∨ (rk c k s) % 2 = 1 := by omega
    have hb : (c / 2 ^ k) % 2 = 0 ∨ (c / 2 ^ k) % 2 = 1 := by omega
    rcases ha with ha | ha <;> rcases hb with hb | hb <;> rw [ha, hb] <;> simp
    · rw [Nat.xor_assoc, Nat.xor_comm poly, ← Nat.xor_assoc]
    · rw [xor4]
theorem rk8 (c s : Nat) (hc : c < 256) : rk c 8 s = byte s c := by
  have h := rk_eq c s 8
  have hz : c / 2 ^ 8 = 0 := by omega
  rw [hz, Nat.xor_zero] at h
  rw [h]; rfl
theorem rk_lt (c s : Nat) (hs : s < 2 ^ 32) : ∀ k, rk c k s < 2 ^ 32 := by
  intro k
  induction k with
  | zero => exact hs
  | succ k ih =>
    show r1 _ _ < _
    unfold r1
    split
    · exact Nat.xor_lt_two_pow (by omega) poly_lt
    · omega

/-! ### what differs -/
theorem byte_xor (s t c d : Nat) : byte s c ^^^ byte t d = byte (s ^^^ t) (c ^^^ d) := by
  unfold byte
  rw [← f8_xor]
  congr 1
  rw [Nat.xor_assoc, Nat.xor_assoc]
  congr 1
  rw [← Nat.xor_assoc, ← Nat.xor_assoc, Nat.xor_comm c t]
theorem bytes_xor (a : List Nat) : ∀ (b : List Nat) (s t : Nat), a.length = b.length → bytes s a ^^^ bytes t b = bytes (s ^^^ t) (List.zipWith (· ^^^ ·) a b) := by
  induction a with
  | nil => intro b s t h; cases b with
    | nil => rfl
    | cons => simp at h
  | cons c a ih => intro b s t h; cases b with
    | nil => simp at h
    | cons d b =>
      have e := ih b (byte s c) (byte t d) (by simpa using h)
      rw [byte_xor] at e
      exact e
/-- the lowest bit goes up to the highest: nothing of 32 bits is lost. -/
theorem f1_top {s : Nat} (h : s < 2 ^ 32) : f1 s / 2 ^ 31 = s % 2 := by
  unfold f1
  have h2 : s / 2 < 2 ^ 31 := by omega
  split
  · rename_i h1
    have := Nat.xor_div_two_pow (a := s / 2) (b := poly) (n := 31)
    rw [this, Nat.div_eq_of_lt h2, Nat.zero_xor, h1]
    simp [poly]
  · rename_i h1
    rw [Nat.div_eq_of_lt h2]; omega
theorem f1_inj {s t : Nat} (hs : s < 2 ^ 32) (ht : t < 2 ^ 32) (h : f1 s = f1 t) : s = t := by
  have h1 := f1_top hs
  have h2 := f1_top ht
  rw [h] at h1
  have hm : s % 2 = t % 2 := by omega
  have hd : s / 2 = t / 2 := by
    unfold f1 at h
    rw [hm] at h
    split at h
    · have := congrArg (· ^^^ poly) h
      simpa [Nat.xor_assoc] using this
    · exact h
  omega
theorem f8_inj {s t : Nat} (hs : s < 2 ^ 32) (ht : t < 2 ^ 32) (h : f8 s = f8 t) : s = t := by
  have e : ∀ {a b : Nat}, a < 2 ^ 32 → b < 2 ^ 32 → f4 a = f4 b → a = b := by
    intro a b ha hb h
    exact f1_inj ha hb (f1_inj (f1_lt ha) (f1_lt hb) (f1_inj (f1_lt (f1_lt ha)) (f1_lt (f1_lt hb)) (f1_inj (f1_lt (f1_lt (f1_lt ha))) (f1_lt (f1_lt (f1_lt hb))) h)))
  exact e hs ht (e (f4_lt hs) (f4_lt ht) h)
theorem f8_zero : f8 0 = 0 := by decide
/-- f8 shifts a state of zeros below: what was in the upper bytes comes down. -/
theorem f8_low (q : Nat) : f8 (q * 256) = q := by
  unfold f8
  have : q * 256 = (q * 16) * 16 := by omega
  rw [this, f4_high, f4_high]
/-- the window as one number, the first byte the lowest. -/
def le : List Nat → Nat
  | [] => 0
  | c :: l => c ^^^ (le l * 256)
theorem le_lt (l : List Nat) (h : ∀ c ∈ l, c < 256) : le l < 256 ^ l.length := by
  induction l with
  | nil => simp [le]
  | cons c l ih =>
    have hi := ih fun d hd => h d (by simp [hd])
    have hc := h c (by simp)
    have e : (256 : Nat) ^ (l.length + 1) = 2 ^ (8 * (l.length + 1)) := by rw [Nat.pow_mul]
    have e' : (256 : Nat) ^ l.length * 256 = 256 ^ (l.length + 1) := by rw [Nat.pow_succ]
    have hp : 0 < (256 : Nat) ^ l.length := Nat.pow_pos (by decide)
    simp only [le, List.length_cons]
    rw [e]
    apply Nat.xor_lt_two_pow
    · rw [← e, Nat.pow_succ]; omega
    · rw [← e, Nat.pow_succ]; omega
theorem xor_eq_zero {a b : Nat} (h : a ^^^ b = 0) : a = b := by
  have := congrArg (· ^^^ b) h
  simpa [Nat.xor_assoc] using this
theorem bytes_zero (l : List Nat) : ∀ s, l.length ≤ 4 → s < 2 ^ 32 → (∀ c ∈ l, c < 256) → (bytes s l = 0 ↔ s = le l) := by
  induction l with
  | nil => intro s _ _ _; exact Iff.rfl
  | cons c l ih =>
    intro s hl hs h
    have hc := h c (by simp)
    have hl' : ∀ d ∈ l, d < 256 := fun d hd => h d (by simp [hd])
    have hlt := le_lt l hl'
    simp only [List.length_cons] at hl
    have h3 : le l < 256 ^ 3 := Nat.lt_of_lt_of_le hlt (Nat.pow_le_pow_right (by decide) (by omega))
    refine (ih (byte s c) (by omega) (byte_lt hs hc) hl').trans ?_
    simp only [le]
    constructor
    · intro e
      have : f8 (s ^^^ c) = f8 (le l * 256) := by rw [f8_low]; exact e
      have := f8_inj (Nat.xor_lt_two_pow hs (by omega)) (by omega) this
      rw [← this, Nat.xor_comm s c, ← Nat.xor_assoc, Nat.xor_self, Nat.zero_xor]
    · rintro rfl
      unfold byte
      rw [Nat.xor_comm c, Nat.xor_assoc, Nat.xor_self, Nat.xor_zero, f8_low]
theorem le_zero (l : List Nat) (h : ∀ c ∈ l, c < 256) : 0 = le l ↔ ∀ c ∈ l, c = 0 := by
  induction l with
  | nil => simp [le]
  | cons c l ih =>
    have hi := ih fun d hd => h d (by simp [hd])
    have hc := h c (by simp)
    constructor
    · intro e
      have := xor_eq_zero e.symm
      have h0 : c = 0 := by omega
      have h1 : 0 = le l := by omega
      intro d hd
      rcases List.mem_cons.1 hd with rfl | hd
      · exact h0
      · exact hi.1 h1 d hd
    · intro e
      have h0 := e c (by simp)
      have h1 := hi.2 fun d hd => e d (by simp [hd])
      simp [le, h0, ← h1]
/-- two texts that differ in a window of up to four bytes have the same sum just if the window is the same. -/
theorem window (s : Nat) (hs : s < 2 ^ 32) (a x y b : List Nat) (hx : x.length = y.length) (h4 : x.length ≤ 4) (ha : ∀ c ∈ a, c < 256) (h1 : ∀ c ∈ x, c < 256) (h2 : ∀ c ∈ y, c < 256) (hb : ∀ c ∈ b, c < 256) :
    bytes s (a ++ x ++ b) = bytes s (a ++ y ++ b) ↔ x = y := by
  constructor
  · intro h
    rw [bytes_append, bytes_append, bytes_append, bytes_append] at h
    have hA := bytes_lt a hs ha
    generalize bytes s a = S at h hA
    have hX := bytes_lt x hA h1
    have hY := bytes_lt y hA h2
    have e1 : ∀ (b : List Nat) (s t : Nat), s < 2 ^ 32 → t < 2 ^ 32 → (∀ c ∈ b, c < 256) → bytes s b = bytes t b → s = t := by
      intro b
      induction b with
      | nil => intro s t _ _ _ h; exact h
      | cons c b ih =>
        intro s t hs ht hb h
        have hc := hb c (by simp)
        have := ih _ _ (byte_lt hs hc) (byte_lt ht hc) (fun d hd => hb d (by simp [hd])) h
        have := f8_inj (Nat.xor_lt_two_pow hs (by omega)) (Nat.xor_lt_two_pow ht (by omega)) this
        have := congrArg (· ^^^ c) this
        simpa [Nat.xor_assoc] using this
    have hxy := e1 b _ _ hX hY hb h
    have h0 := bytes_xor x y S S hx
    rw [hxy, Nat.xor_self, Nat.xor_self] at h0
    have hz : ∀ c ∈ List.zipWith (· ^^^ ·) x y, c < 256 := by
      intro c hc
      obtain ⟨i, hi, rfl⟩ := List.getElem_of_mem hc
      simp only [List.length_zipWith] at hi
      rw [List.getElem_zipWith]
      exact Nat.xor_lt_two_pow (n := 8) (h1 _ (List.getElem_mem _)) (h2 _ (List.getElem_mem _))
    have hq := (le_zero _ hz).1 ((bytes_zero _ 0 (by simp; omega) (by decide) hz).1 h0.symm)
    apply List.ext_getElem hx
    intro i hi hj
    have := hq ((List.zipWith (· ^^^ ·) x y)[i]'(by simp; omega)) (List.getElem_mem _)
    rw [List.getElem_zipWith] at this
    exact xor_eq_zero this
  · rintro rfl; rfl
end Go.Proofs.Ytljdiaokjocfpaa.Crc

/- The check sum as a plain function on lists of bytes: it is linear, and tells up to four bytes side by side apart. No program in sight. -/
import Derived.Laws.BitsAllLaws
namespace Go.Proofs.Ytlcimiboalpdkaa

def poly : Nat := 3988292384
/-- A bit. -/
def crcBit (c : Nat) : Nat := c / 2 ^^^ (c % 2) * poly
def crcBits : Nat → Nat → Nat
  | 0, c => c
  | n + 1, c => crcBit (crcBits n c)
/-- A byte of noughts. -/
def crc8 (c : Nat) : Nat := crcBits 8 c
def crcFrom (c : Nat) (l : List UInt8) : Nat := l.foldl (fun c b => crc8 (c ^^^ b.toNat)) c
/-- The check sum. -/
def crcL (l : List UInt8) : Nat := 4294967295 - crcFrom 4294967295 l

theorem xor_div2 (a b : Nat) : (a ^^^ b) / 2 = a / 2 ^^^ b / 2 := by
  have h := Nat.shiftRight_xor_distrib (a := a) (b := b) (i := 1)
  simpa only [Nat.shiftRight_eq_div_pow, Nat.pow_one] using h
theorem crcBit_lt {c : Nat} (h : c < 4294967296) : crcBit c < 4294967296 := by
  unfold crcBit poly
  rcases Nat.mod_two_eq_zero_or_one c with h2 | h2 <;> rw [h2]
  · rw [Nat.zero_mul, Nat.xor_zero]; omega
  · exact Nat.xor_lt_two_pow (n := 32) (by omega) (by omega)
theorem crcBit_zero : crcBit 0 = 0 := rfl
theorem crcBit_xor (a b : Nat) : crcBit (a ^^^ b) = crcBit a ^^^ crcBit b := by
  unfold crcBit
  rw [xor_div2]
  have hm : (a ^^^ b) % 2 = (a % 2 + b % 2) % 2 := by
    have h := Nat.xor_mod_two_pow (a := a) (b := b) (n := 1)
    rw [Nat.pow_one] at h
    rw [h]
    rcases Nat.mod_two_eq_zero_or_one a with h1 | h1 <;> rcases Nat.mod_two_eq_zero_or_one b with h2 | h2 <;> rw [h1, h2] <;> rfl
  rw [hm]
  rcases Nat.mod_two_eq_zero_or_one a with h1 | h1 <;> rcases Nat.mod_two_eq_zero_or_one b with h2 | h2 <;> rw [h1, h2]
  · simp
  · simp [Nat.xor_assoc]
  · simp only [Nat.one_mul, Nat.zero_mul, Nat.xor_zero, Nat.add_zero, Nat.reduceMod]
    rw [Nat.xor_assoc, Nat.xor_comm (b / 2), ← Nat.xor_assoc]
  · simp only [Nat.one_mul, Nat.reduceAdd, Nat.reduceMod, Nat.zero_mul, Nat.xor_zero]
    rw [Nat.xor_assoc, ← Nat.xor_assoc poly, Nat.xor_comm poly, Nat.xor_assoc (b / 2), Nat.xor_self, Nat.xor_zero]
theorem crcBit_eq_zero {c : Nat} (h : c < 4294967296) (h0 : crcBit c = 0) : c = 0 := by
  unfold crcBit poly at h0
  rcases Nat.mod_two_eq_zero_or_one c with h2 | h2
  · rw [h2, Nat.zero_mul, Nat.xor_zero] at h0; omega
  · rw [h2, Nat.one_mul] at h0
    have : c / 2 = 3988292384 := by
      have h3 := congrArg (fun x => x ^^^ 3988292384) h0
      simpa [Nat.xor_assoc] using h3
    omega

theorem crcBits_lt (n : Nat) {c : Nat} (h : c < 4294967296) : crcBits n c < 4294967296 := by
  induction n with
  | zero => exact h
  | succ n ih => exact crcBit_lt ih
theorem crcBits_xor (n : Nat) (a b : Nat) : crcBits n (a ^^^ b) = crcBits n a ^^^ crcBits n b := by
  induction n with
  | zero => rfl
  | succ n ih => show crcBit _ = crcBit _ ^^^ crcBit _; rw [ih, crcBit_xor]
theorem crcBits_eq_zero (n : Nat) {c : Nat} (h : c < 4294967296) (h0 : crcBits n c = 0) : c = 0 := by
  induction n with
  | zero => exact h0
  | succ n ih => exact ih (crcBit_eq_zero (crcBits_lt n h) h0)
theorem crcBits_even (n m : Nat) : crcBits n (m * 2 ^ n) = m := by
  induction n generalizing m with
  | zero => simp [crcBits]
  | succ n ih =>
    show crcBit (crcBits n _) = m
    rw [show m * 2 ^ (n + 1) = (m * 2) * 2 ^ n by rw [Nat.pow_succ]; ac_rfl, ih]
    unfold crcBit
    rw [Nat.mul_mod_left, Nat.zero_mul, Nat.xor_zero, Nat.mul_div_cancel _ (by omega)]

theorem crc8_lt {c : Nat} (h : c < 4294967296) : crc8 c < 4294967296 := crcBits_lt 8 h
theorem crc8_xor (a b : Nat) : crc8 (a ^^^ b) = crc8 a ^^^ crc8 b := crcBits_xor 8 a b
theorem crc8_eq_zero {c : Nat} (h : c < 4294967296) (h0 : crc8 c = 0) : c = 0 := crcBits_eq_zero 8 h h0
theorem crc8_shift (m : Nat) : crc8 (m * 256) = m := crcBits_even 8 m

theorem xor_byte_lt {c : Nat} (b : UInt8) (h : c < 4294967296) : c ^^^ b.toNat < 4294967296 := by
  have := b.toNat_lt
  exact Nat.xor_lt_two_pow (n := 32) h (by omega)
theorem crcFrom_lt (l : List UInt8) : ∀ {c : Nat}, c < 4294967296 → crcFrom c l < 4294967296 := by
  induction l with
  | nil => intro c h; exact h
  | cons b l ih => intro c h; exact ih (crc8_lt (xor_byte_lt b h))
theorem crcFrom_append (c : Nat) (a b : List UInt8) : crcFrom c (a ++ b) = crcFrom (crcFrom c a) b := List.foldl_append ..
theorem crcFrom_snoc (c : Nat) (a : List UInt8) (b : UInt8) : crcFrom c (a ++ [b]) = crc8 (crcFrom c a ^^^ b.toNat) := by rw [crcFrom_append]; rfl

/-- Two that are unlike stay so. -/
theorem crcFrom_ne (l : List UInt8) : ∀ {c d : Nat}, c < 4294967296 → d < 4294967296 → c ≠ d → crcFrom c l ≠ crcFrom d l := by
  induction l with
  | nil => intro c d _ _ h; exact h
  | cons b l ih =>
    intro c d hc hd h
    refine ih (crc8_lt (xor_byte_lt b hc)) (crc8_lt (xor_byte_lt b hd)) fun e => h ?_
    have e : crc8 (c ^^^ b.toNat) = crc8 (d ^^^ b.toNat) := e
    have e2 : crc8 ((c ^^^ b.toNat) ^^^ (d ^^^ b.toNat)) = 0 := by rw [crc8_xor, e, Nat.xor_self]
    have e3 := crc8_eq_zero (Nat.xor_lt_two_pow (n := 32) (xor_byte_lt b hc) (xor_byte_lt b hd)) e2
    have e4 : (c ^^^ b.toNat) ^^^ (d ^^^ b.toNat) = c ^^^ d := by
      rw [Nat.xor_assoc, Nat.xor_comm d, ← Nat.xor_assoc (b.toNat), Nat.xor_self, Nat.zero_xor]
    rw [e4] at e3
    have := congrArg (fun x => x ^^^ d) e3
    simpa [Nat.xor_assoc] using this

/-- Up to four bytes as one number, the first one least. -/
def wordOf : List UInt8 → Nat
  | [] => 0
  | b :: l => b.toNat + 256 * wordOf l

theorem wordOf_lt : ∀ l : List UInt8, wordOf l < 256 ^ l.length
  | [] => by simp [wordOf]
  | b :: l => by
    have h := wordOf_lt l
    have hb := b.toNat_lt
    simp only [wordOf, List.length_cons, Nat.pow_succ]
    omega
theorem wordOf_inj : ∀ l m : List UInt8, l.length = m.length → wordOf l = wordOf m → l = m
  | [], [], _, _ => rfl
  | b :: l, d :: m, hl, h => by
    have hb := b.toNat_lt
    have hd := d.toNat_lt
    simp only [wordOf] at h
    have e1 : b.toNat = d.toNat := by omega
    have e2 : wordOf l = wordOf m := by omega
    have := wordOf_inj l m (by simpa using hl) e2
    rw [this, UInt8.toNat_inj.1 e1]

theorem byte_xor (b : UInt8) (m : Nat) : b.toNat + 256 * m = b.toNat ^^^ (m * 256) := by
  have hb := b.toNat_lt
  rw [Nat.xor_comm, Nat.mul_comm]
  have := Nat.two_pow_add_eq_or_of_lt (i := 8) (b := b.toNat) (by omega) m
  rw [Nat.add_comm, show m * 256 = 2 ^ 8 * m by rw [Nat.mul_comm], this]
  apply Nat.eq_of_testBit_eq
  intro i
  rw [Nat.testBit_or, Nat.testBit_xor]
  by_cases hi : i < 8
  · have : (2 ^ 8 * m).testBit i = false := by rw [Nat.testBit_two_pow_mul]; simp; omega
    rw [this]; simp
  · have : b.toNat.testBit i = false := Nat.testBit_lt_two_pow (Nat.lt_of_lt_of_le hb (Nat.pow_le_pow_right (by omega) (by omega)))
    rw [this]; simp

/-- The bytes at once: the register with their word in it, turned as many bytes on. -/
theorem crcFrom_word (l : List UInt8) : ∀ c : Nat, crcFrom c l = crcBits (8 * l.length) (c ^^^ wordOf l) := by
  have add : ∀ n m c, crcBits (n + m) c = crcBits n (crcBits m c) := by
    intro n
    induction n with
    | zero => intro m c; rw [Nat.zero_add]; rfl
    | succ n ih => intro m c; rw [Nat.succ_add]; show crcBit _ = crcBit _; rw [ih]
  induction l with
  | nil => intro c; simp [crcFrom, wordOf, crcBits]
  | cons b l ih =>
    intro c
    show crcFrom (crc8 (c ^^^ b.toNat)) l = _
    rw [ih, List.length_cons, show 8 * (l.length + 1) = 8 * l.length + 8 by omega, add]
    congr 1
    show crc8 _ ^^^ _ = crc8 _
    rw [wordOf, byte_xor, ← Nat.xor_assoc, crc8_xor (c ^^^ b.toNat), crc8_shift]

/-- Two texts of one length of up to four bytes, fed to the same register, leave unlike ones. -/
theorem crcFrom_window {l m : List UInt8} (hl : l.length = m.length) (h4 : l.length ≤ 4) (hne : l ≠ m) {c : Nat} (hc : c < 4294967296) : crcFrom c l ≠ crcFrom c m := by
  intro e
  rw [crcFrom_word, crcFrom_word, hl] at e
  have e2 : crcBits (8 * m.length) ((c ^^^ wordOf l) ^^^ (c ^^^ wordOf m)) = 0 := by rw [crcBits_xor, e, Nat.xor_self]
  have e4 : (c ^^^ wordOf l) ^^^ (c ^^^ wordOf m) = wordOf l ^^^ wordOf m := by
    rw [Nat.xor_comm c, Nat.xor_assoc, ← Nat.xor_assoc c, Nat.xor_self, Nat.zero_xor]
  have bound : ∀ k : List UInt8, k.length ≤ 4 → wordOf k < 4294967296 := by
    intro k hk
    exact Nat.lt_of_lt_of_le (wordOf_lt k) (Nat.le_trans (Nat.pow_le_pow_right (by omega) hk) (by decide))
  rw [e4] at e2
  have e3 := crcBits_eq_zero _ (Nat.xor_lt_two_pow (n := 32) (bound l h4) (bound m (by omega))) e2
  have e5 : wordOf l = wordOf m := by
    have := congrArg (fun x => x ^^^ wordOf m) e3
    simpa [Nat.xor_assoc] using this
  exact hne (wordOf_inj l m hl e5)

/-- The check sum tells them apart. -/
theorem crcL_unlike {a l m b : List UInt8} (hl : l.length = m.length) (h4 : l.length ≤ 4) (hne : l ≠ m) : crcL (a ++ l ++ b) ≠ crcL (a ++ m ++ b) := by
  unfold crcL
  rw [crcFrom_append, crcFrom_append, crcFrom_append, crcFrom_append]
  have ha := crcFrom_lt a (c := 4294967295) (by decide)
  have h := crcFrom_ne b (crcFrom_lt l ha) (crcFrom_lt m ha) (crcFrom_window hl h4 hne ha)
  have h1 := crcFrom_lt b (crcFrom_lt l ha)
  have h2 := crcFrom_lt b (crcFrom_lt m ha)
  omega
theorem crcL_lt (l : List UInt8) : crcL l < 4294967296 := by unfold crcL; omega
end Go.Proofs.Ytlcimiboalpdkaa

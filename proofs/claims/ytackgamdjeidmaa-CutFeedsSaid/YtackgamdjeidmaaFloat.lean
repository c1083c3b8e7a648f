/- Whole numbers below 2^53 in size, as words of float64: the word of n is floatOfInt .f64 n; sums, differences, comparisons and cuts to an int are exact. No program in sight. -/
import Derived.Laws.FloatArith
import Derived.Laws.ComplexArith
namespace Go.Proofs.Ytackgamdjeidmaa
open Ieee

/-- The word of a whole number. -/
abbrev W (n : Int) : Nat := floatOfInt .f64 n

theorem log2_scaled {M K : Nat} (hM : 0 < M) : (M * 2 ^ K).log2 = M.log2 + K := by
  have h0 : M ≠ 0 := by omega
  have hp : 0 < 2 ^ K := Nat.two_pow_pos K
  rw [Nat.log2_eq_iff (by have := Nat.mul_pos hM hp; omega)]
  have h1 := Nat.log2_self_le h0
  have h2 := @Nat.lt_log2_self M
  constructor
  · rw [Nat.pow_add]; exact Nat.mul_le_mul_right _ h1
  · rw [show M.log2 + K + 1 = (M.log2 + 1) + K by omega, Nat.pow_add]
    exact Nat.mul_lt_mul_of_pos_right h2 hp

theorem cut_none (neg : Bool) (n : Nat) : Toward.even.cut neg n 0 = n := by
  simp [Toward.cut, Nat.shiftLeft_eq, Nat.mod_one]

theorem cut_exact (neg : Bool) (q D : Nat) (hq : 0 < q) : Toward.even.cut neg (q * 2 ^ D) D = q := by
  have hl := log2_scaled (K := D) hq
  have hm : min D ((q * 2 ^ D).log2 + 2) = D := by omega
  have hp : 0 < 2 ^ D := Nat.two_pow_pos D
  unfold Toward.cut
  simp only [hm, Nat.shiftLeft_eq, Nat.one_mul]
  rw [Nat.mul_div_cancel _ hp, Nat.mul_mod_left]
  simp

/-- The rung of a whole number M, 0 < M < 2^53. -/
def rungOf (M : Nat) : Nat := (M.log2 + 1022) * 2 ^ 52 + M * 2 ^ (52 - M.log2)

theorem log2_small {M : Nat} (hM : 0 < M) (h : M < 2 ^ 53) : M.log2 ≤ 52 := by
  have h1 := Nat.log2_self_le (n := M) (by omega)
  have : 2 ^ M.log2 < 2 ^ 53 := by omega
  have := (Nat.pow_lt_pow_iff_right (a := 2) (by omega)).1 this
  omega

theorem sig_bounds {M : Nat} (hM : 0 < M) (h : M < 2 ^ 53) : 2 ^ 52 ≤ M * 2 ^ (52 - M.log2) ∧ M * 2 ^ (52 - M.log2) < 2 ^ 53 := by
  have hl := log2_small hM h
  have h1 := Nat.log2_self_le (n := M) (by omega)
  have h2 := @Nat.lt_log2_self M
  have hp : 0 < 2 ^ (52 - M.log2) := Nat.two_pow_pos _
  constructor
  · have := Nat.mul_le_mul_right (2 ^ (52 - M.log2)) h1
    rw [← Nat.pow_add, show M.log2 + (52 - M.log2) = 52 by omega] at this
    exact this
  · have := Nat.mul_lt_mul_of_pos_right h2 hp
    rw [← Nat.pow_add, show M.log2 + 1 + (52 - M.log2) = 53 by omega] at this
    exact this

theorem nearest_val (neg : Bool) {M : Nat} (K : Nat) (hM : 0 < M) (h : M < 2 ^ 53) :
    double.nearest neg (M * 2 ^ K) (-(K : Int)) = double.word neg (rungOf M) := by
  have hl := log2_small hM h
  obtain ⟨s1, s2⟩ := sig_bounds hM h
  have hlog := log2_scaled (K := K) hM
  have hp : 0 < 2 ^ K := Nat.two_pow_pos K
  have hne : ¬ M * 2 ^ K = 0 := by have := Nat.mul_pos hM hp; omega
  have hlp : double.leastPlace = -1074 := by decide
  have hfb : double.fractionBits = 52 := rfl
  unfold Format.nearest
  rw [if_neg hne]
  simp only [hlog, hlp, hfb]
  have hlast : max (-(K : Int) + ((M.log2 + K : Nat) : Int) - ((52 : Nat) : Int)) (-1074) = (M.log2 : Int) - 52 := by omega
  rw [hlast]
  have hk : Toward.even.cut neg ((M * 2 ^ K) <<< (-(K : Int) - ((M.log2 : Int) - 52)).toNat) ((M.log2 : Int) - 52 - -(K : Int)).toNat = M * 2 ^ (52 - M.log2) := by
    by_cases hc : M.log2 + K ≤ 52
    · rw [show ((M.log2 : Int) - 52 - -(K : Int)).toNat = 0 by omega, cut_none, Nat.shiftLeft_eq,
        show (-(K : Int) - ((M.log2 : Int) - 52)).toNat = 52 - M.log2 - K by omega, Nat.mul_assoc, ← Nat.pow_add]
      congr 2; omega
    · rw [show (-(K : Int) - ((M.log2 : Int) - 52)).toNat = 0 by omega, Nat.shiftLeft_zero,
        show ((M.log2 : Int) - 52 - -(K : Int)).toNat = M.log2 + K - 52 by omega]
      have : M * 2 ^ K = (M * 2 ^ (52 - M.log2)) * 2 ^ (M.log2 + K - 52) := by
        rw [Nat.mul_assoc, ← Nat.pow_add]; congr 2; omega
      rw [this]
      exact cut_exact neg _ _ (by omega)
  rw [hk, show ((M.log2 : Int) - 52 - -1074).toNat = M.log2 + 1022 by omega]
  have hb : double.binade = 2 ^ 52 := rfl
  have hi : double.infRung = 2047 * 2 ^ 52 := by decide
  rw [hb, hi, Nat.min_eq_left (by omega)]
  rfl

theorem read_word (neg : Bool) {r : Nat} (hr : r < double.signWeight) :
    double.word neg r / double.signWeight % 2 = neg.toNat ∧ double.word neg r % double.signWeight = r := by
  have hs : double.signWeight = 9223372036854775808 := by decide
  rw [hs] at hr ⊢
  unfold Format.word
  rw [hs]
  cases neg <;> simp <;> omega

theorem read_rung (neg : Bool) {M : Nat} (hM : 0 < M) (h : M < 2 ^ 53) :
    double.read (double.word neg (rungOf M)) = .number neg (M * 2 ^ (52 - M.log2)) (-((52 - M.log2 : Nat) : Int)) := by
  have hl := log2_small hM h
  obtain ⟨s1, s2⟩ := sig_bounds hM h
  have hs : double.signWeight = 2048 * 2 ^ 52 := by decide
  have hb : double.binade = 2 ^ 52 := rfl
  have hi : double.infRung = 2047 * 2 ^ 52 := by decide
  have hlp : double.leastPlace = -1074 := by decide
  have hr : rungOf M < double.signWeight := by rw [hs]; unfold rungOf; omega
  obtain ⟨e1, e2⟩ := read_word neg hr
  unfold Format.read
  simp only [e1, e2, hb, hi, hlp]
  have c1 : ¬ rungOf M < 2 ^ 52 := by unfold rungOf; omega
  have c2 : rungOf M < 2047 * 2 ^ 52 := by unfold rungOf; omega
  rw [if_neg c1, if_pos c2]
  have d1 : rungOf M / 2 ^ 52 = M.log2 + 1023 := by unfold rungOf; omega
  have d2 : rungOf M % 2 ^ 52 = M * 2 ^ (52 - M.log2) - 2 ^ 52 := by unfold rungOf; omega
  rw [d1, d2]
  have f1 : 2 ^ 52 + (M * 2 ^ (52 - M.log2) - 2 ^ 52) = M * 2 ^ (52 - M.log2) := by omega
  have f2 : (-1074 : Int) + ((M.log2 + 1023 - 1 : Nat) : Int) = -((52 - M.log2 : Nat) : Int) := by omega
  rw [f1, f2]
  cases neg <;> rfl

theorem floatOfInt_eq (n : Int) : W n = double.nearest (decide (n < 0)) n.natAbs 0 := rfl

theorem W_pos {n : Int} (h0 : n ≠ 0) (h : n.natAbs < 2 ^ 53) : W n = double.word (decide (n < 0)) (rungOf n.natAbs) := by
  have := nearest_val (decide (n < 0)) (M := n.natAbs) 0 (by omega) h
  rw [Nat.pow_zero, Nat.mul_one] at this
  exact this

theorem W_zero : W 0 = 0 := by decide

/-- The word of a whole number, or of the other zero. -/
def Fl (b : Nat) (n : Int) : Prop := b = W n ∨ (n = 0 ∧ b = 9223372036854775808)

/-- What a word is: a number, so many units. -/
def Is (s : Bool) (n : Int) (b : Nat) : Prop := ∃ m k : Nat, double.read b = .number s m (-(k : Int)) ∧ k ≤ 1074 ∧ (m : Int) = n.natAbs * 2 ^ k ∧ (n < 0 → s = true) ∧ (0 < n → s = false)

theorem is_W {n : Int} (h : n.natAbs < 2 ^ 53) : Is (decide (n < 0)) n (W n) := by
  by_cases h0 : n = 0
  · subst h0
    exact ⟨0, 1074, by decide, by omega, (Int.zero_mul _).symm, by simp, by simp⟩
  · rw [W_pos h0 h]
    refine ⟨_, _, read_rung _ (by omega) h, by omega, by push_cast; rfl, by simp, by simp; omega⟩

theorem is_nz : Is true 0 9223372036854775808 := ⟨0, 1074, by decide, by omega, (Int.zero_mul _).symm, by simp, by simp⟩

theorem Fl.is {b : Nat} {n : Int} (h : Fl b n) (hn : n.natAbs < 2 ^ 53) : ∃ s, Is s n b := by
  rcases h with rfl | ⟨rfl, rfl⟩
  · exact ⟨_, is_W hn⟩
  · exact ⟨_, is_nz⟩

theorem signed_is {s : Bool} {n : Int} {m k e : Nat} (hm : (m : Int) = n.natAbs * 2 ^ k) (hs1 : n < 0 → s = true) (hs2 : 0 < n → s = false) :
    Ieee.signed s m e = n * 2 ^ (k + e) := by
  have hm' : ((m <<< e : Nat) : Int) = n.natAbs * 2 ^ (k + e) := by
    rw [Nat.shiftLeft_eq]; push_cast; rw [hm, Int.pow_add, Int.mul_assoc]
  unfold Ieee.signed
  rcases Int.lt_trichotomy n 0 with h | h | h
  · rw [hs1 h]; simp only [if_true]; rw [hm', ← Int.neg_mul]; congr 1; omega
  · subst h; rw [hm']; cases s <;> simp
  · rw [hs2 h]; simp only [Bool.false_eq_true, if_false]; rw [hm']; congr 1; omega

/-- The sign of a sum. -/
def sumSign (s t : Bool) (c : Int) : Bool := if c = 0 then s && t else decide (c < 0)

theorem sum_is {s t : Bool} {a b : Int} {x y : Datum} {m k n l : Nat} (hx : x = .number s m (-(k : Int))) (hy : y = .number t n (-(l : Int))) (hk : k ≤ 1074) (hl : l ≤ 1074)
    (hm : (m : Int) = a.natAbs * 2 ^ k) (hn : (n : Int) = b.natAbs * 2 ^ l) (hs1 : a < 0 → s = true) (hs2 : 0 < a → s = false) (ht1 : b < 0 → t = true) (ht2 : 0 < b → t = false) :
    ∃ K : Nat, K ≤ 1074 ∧ x.sum y = some (.number (sumSign s t (a + b)) ((a + b).natAbs * 2 ^ K) (-(K : Int))) := by
  subst hx hy
  refine ⟨(max k l : Nat), by omega, ?_⟩
  unfold Datum.sum
  have hb : min (-(k : Int)) (-(l : Int)) = -((max k l : Nat) : Int) := by omega
  simp only [hb]
  rw [signed_is hm hs1 hs2, signed_is hn ht1 ht2]
  have e1 : k + (-(k : Int) - -((max k l : Nat) : Int)).toNat = max k l := by omega
  have e2 : l + (-(l : Int) - -((max k l : Nat) : Int)).toNat = max k l := by omega
  rw [e1, e2, ← Int.add_mul]
  have hp : (0 : Int) < 2 ^ (max k l) := Int.pow_pos (by omega)
  have z : ((a + b) * 2 ^ (max k l) = 0) ↔ a + b = 0 := by
    constructor
    · intro h; rcases Int.mul_eq_zero.1 h with h | h <;> omega
    · intro h; rw [h, Int.zero_mul]
  have ng : ((a + b) * 2 ^ (max k l) < 0) ↔ a + b < 0 := by
    constructor
    · intro h
      by_cases hc : a + b < 0
      · exact hc
      · have := Int.mul_nonneg (show 0 ≤ a + b by omega) (Int.le_of_lt hp); omega
    · intro h; exact Int.mul_neg_of_neg_of_pos h hp
  have hab : ((a + b) * 2 ^ (max k l)).natAbs = (a + b).natAbs * 2 ^ (max k l) := by
    rw [Int.natAbs_mul, Int.natAbs_pow]; rfl
  rw [hab]
  congr 2
  unfold sumSign
  by_cases h0 : a + b = 0
  · rw [if_pos h0, if_pos (z.2 h0)]
  · rw [if_neg h0, if_neg (fun h => h0 (z.1 h))]
    simp only [ng]

theorem write_scaled {s : Bool} {c : Int} {K : Nat} (hc : c.natAbs < 2 ^ 53) (hs1 : c < 0 → s = true) (hs2 : 0 < c → s = false) :
    double.write (.number s (c.natAbs * 2 ^ K) (-(K : Int))) = if c = 0 then double.word s 0 else W c := by
  show double.nearest s _ _ = _
  by_cases h0 : c = 0
  · subst h0; simp [Format.nearest]
  · rw [if_neg h0, nearest_val s K (by omega) hc, W_pos h0 hc]
    congr 1
    rcases Int.lt_trichotomy c 0 with h | h | h
    · rw [hs1 h]; simp [h]
    · exact absurd h h0
    · rw [hs2 h]; simp; omega

theorem sumSign_neg {s t : Bool} {c : Int} (h : c < 0) : sumSign s t c = true := by
  unfold sumSign; rw [if_neg (by omega)]; simp [h]
theorem sumSign_pos {s t : Bool} {c : Int} (h : 0 < c) : sumSign s t c = false := by
  unfold sumSign; rw [if_neg (by omega)]; simp; omega

theorem add_is {s t : Bool} {a b : Int} {x y : Nat} (hx : Is s a x) (hy : Is t b y) (hc : (a + b).natAbs < 2 ^ 53) :
    double.add x y = some (if a + b = 0 then double.word (s && t) 0 else W (a + b)) := by
  obtain ⟨m, k, e1, h1, h2, h3, h4⟩ := hx
  obtain ⟨n, l, e2, g1, g2, g3, g4⟩ := hy
  obtain ⟨K, _, hsum⟩ := sum_is e1 e2 h1 g1 h2 g2 h3 h4 g3 g4
  unfold Format.add
  rw [hsum]
  simp only [Option.map_some]
  rw [write_scaled hc (fun h => sumSign_neg h) (fun h => sumSign_pos h)]
  congr 1
  by_cases h0 : a + b = 0
  · rw [if_pos h0, if_pos h0, h0]; rfl
  · rw [if_neg h0, if_neg h0]

theorem Is.opp {s : Bool} {a : Int} {x : Nat} (hx : Is s a x) : ∃ m k : Nat, (double.read x).opposite = .number (!s) m (-(k : Int)) ∧ k ≤ 1074 ∧ (m : Int) = (-a).natAbs * 2 ^ k ∧ (-a < 0 → (!s) = true) ∧ (0 < -a → (!s) = false) := by
  obtain ⟨m, k, e1, h1, h2, h3, h4⟩ := hx
  refine ⟨m, k, by rw [e1]; rfl, h1, by rw [Int.natAbs_neg]; exact h2, fun h => by rw [h4 (by omega)]; rfl, fun h => by rw [h3 (by omega)]; rfl⟩

theorem sub_is {s t : Bool} {a b : Int} {x y : Nat} (hx : Is s a x) (hy : Is t b y) (hc : (a - b).natAbs < 2 ^ 53) :
    double.sub x y = some (if a - b = 0 then double.word (s && !t) 0 else W (a - b)) := by
  obtain ⟨m, k, e1, h1, h2, h3, h4⟩ := hx
  obtain ⟨n, l, e2, g1, g2, g3, g4⟩ := hy.opp
  obtain ⟨K, _, hsum⟩ := sum_is e1 e2 h1 g1 h2 g2 h3 h4 g3 g4
  unfold Format.sub
  rw [hsum]
  simp only [Option.map_some]
  rw [show a + -b = a - b by omega]
  rw [write_scaled hc (fun h => sumSign_neg h) (fun h => sumSign_pos h)]
  congr 1
  by_cases h0 : a - b = 0
  · rw [if_pos h0, if_pos h0, h0]; rfl
  · rw [if_neg h0, if_neg h0]

theorem word_zero (s : Bool) : Fl (double.word s 0) 0 := by
  cases s
  · left; decide
  · right; exact ⟨rfl, by decide⟩

/-- A sum whose second part is no -0 is none. -/
theorem add_canon {a b : Int} {x : Nat} (hx : Fl x a) (ha : a.natAbs < 2 ^ 53) (hb : b.natAbs < 2 ^ 53) (hc : (a + b).natAbs < 2 ^ 53) :
    double.add x (W b) = some (W (a + b)) := by
  obtain ⟨s, hs⟩ := hx.is ha
  rw [add_is hs (is_W hb) hc]
  congr 1
  by_cases h0 : a + b = 0
  · rw [if_pos h0, h0, W_zero]
    have : (s && decide (b < 0)) = false := by
      by_cases h : b < 0
      · obtain ⟨m, k, _, _, _, _, h4⟩ := hs; rw [h4 (by omega)]; rfl
      · simp [h]
    rw [this]; decide
  · rw [if_neg h0]

theorem add_fl {a b : Int} {x y : Nat} (hx : Fl x a) (hy : Fl y b) (ha : a.natAbs < 2 ^ 53) (hb : b.natAbs < 2 ^ 53) (hc : (a + b).natAbs < 2 ^ 53) :
    ∃ r, double.add x y = some r ∧ Fl r (a + b) := by
  obtain ⟨s, hs⟩ := hx.is ha
  obtain ⟨t, ht⟩ := hy.is hb
  rw [add_is hs ht hc]
  refine ⟨_, rfl, ?_⟩
  by_cases h0 : a + b = 0
  · rw [if_pos h0, h0]; exact word_zero _
  · rw [if_neg h0]; exact Or.inl rfl

/-- A difference whose first part is no -0 is none. -/
theorem sub_canon {a b : Int} {y : Nat} (hy : Fl y b) (ha : a.natAbs < 2 ^ 53) (hb : b.natAbs < 2 ^ 53) (hc : (a - b).natAbs < 2 ^ 53) :
    double.sub (W a) y = some (W (a - b)) := by
  rcases hy with rfl | ⟨rfl, rfl⟩
  · rw [sub_is (is_W ha) (is_W hb) hc]
    congr 1
    by_cases h0 : a - b = 0
    · rw [if_pos h0, h0, W_zero]
      have : (decide (a < 0) && !decide (b < 0)) = false := by
        rw [show b = a by omega]; cases decide (a < 0) <;> rfl
      rw [this]; decide
    · rw [if_neg h0]
  · rw [sub_is (is_W ha) is_nz hc]
    congr 1
    by_cases h0 : a - 0 = 0
    · rw [if_pos h0, h0, W_zero]
      have : (decide (a < 0) && !true) = false := by simp
      rw [this]; decide
    · rw [if_neg h0]

theorem sub_fl {a b : Int} {x y : Nat} (hx : Fl x a) (hy : Fl y b) (ha : a.natAbs < 2 ^ 53) (hb : b.natAbs < 2 ^ 53) (hc : (a - b).natAbs < 2 ^ 53) :
    ∃ r, double.sub x y = some r ∧ Fl r (a - b) := by
  obtain ⟨s, hs⟩ := hx.is ha
  obtain ⟨t, ht⟩ := hy.is hb
  rw [sub_is hs ht hc]
  refine ⟨_, rfl, ?_⟩
  by_cases h0 : a - b = 0
  · rw [if_pos h0, h0]; exact word_zero _
  · rw [if_neg h0]; exact Or.inl rfl

theorem xor_high {r : Nat} (h : r < 2 ^ 63) : r ^^^ 2 ^ 63 = 2 ^ 63 + r := by
  rw [Nat.xor_comm]
  have := Nat.two_pow_add_eq_or_of_lt h 1
  rw [Nat.mul_one] at this
  rw [this]
  apply Nat.eq_of_testBit_eq
  intro i
  rw [Nat.testBit_xor, Nat.testBit_or, Nat.testBit_two_pow]
  by_cases hi : 63 = i
  · subst hi
    rw [Nat.testBit_lt_two_pow h]; simp
  · simp [hi]

theorem neg_word (s : Bool) {r : Nat} (h : r < 2 ^ 63) : Op.negFloat .f64 (double.word s r) = double.word (!s) r := by
  have hs : double.signWeight = 2 ^ 63 := by decide
  show double.word s r ^^^ 2 ^ 63 = _
  unfold Format.word
  rw [hs]
  cases s
  · simpa using xor_high h
  · simp only [if_true, Bool.not_true, Bool.false_eq_true, if_false]
    rw [← xor_high h, Nat.xor_assoc, Nat.xor_self, Nat.xor_zero]

theorem rung_lt {M : Nat} (hM : 0 < M) (h : M < 2 ^ 53) : rungOf M < 2 ^ 63 := by
  have hl := log2_small hM h
  obtain ⟨s1, s2⟩ := sig_bounds hM h
  unfold rungOf; omega

theorem neg_fl {a : Int} {x : Nat} (hx : Fl x a) (ha : a.natAbs < 2 ^ 53) : Fl (Op.negFloat .f64 x) (-a) := by
  rcases hx with rfl | ⟨rfl, rfl⟩
  · by_cases h0 : a = 0
    · subst h0; right; exact ⟨rfl, by decide⟩
    · left
      rw [W_pos h0 ha, neg_word _ (rung_lt (by omega) ha), W_pos (n := -a) (by omega) (by omega), Int.natAbs_neg]
      congr 1
      by_cases h : a < 0
      · simp [h]; omega
      · simp [h]; omega
  · left; decide

theorem order_W {a b : Int} (ha : a.natAbs < 2 ^ 53) (hb : b.natAbs < 2 ^ 53) : double.order (W a) (W b) = some (compare a b) := by
  obtain ⟨m, k, e1, h1, h2, h3, h4⟩ := is_W ha
  obtain ⟨n, l, e2, g1, g2, g3, g4⟩ := is_W hb
  unfold Format.order
  rw [e1, e2]
  unfold Datum.order
  have hbb : min (-(k : Int)) (-(l : Int)) = -((max k l : Nat) : Int) := by omega
  simp only [hbb]
  rw [signed_is h2 h3 h4, signed_is g2 g3 g4]
  have e1 : k + (-(k : Int) - -((max k l : Nat) : Int)).toNat = max k l := by omega
  have e2 : l + (-(l : Int) - -((max k l : Nat) : Int)).toNat = max k l := by omega
  rw [e1, e2]
  have hp : (0 : Int) < 2 ^ (max k l) := Int.pow_pos (by omega)
  congr 1
  rcases Int.lt_trichotomy a b with h | h | h
  · rw [Int.compare_eq_lt.2 h, Int.compare_eq_lt.2 (Int.mul_lt_mul_of_pos_right h hp)]
  · subst h; simp
  · rw [Int.compare_eq_gt.2 h, Int.compare_eq_gt.2 (Int.mul_lt_mul_of_pos_right h hp)]

theorem toInt_W {a : Int} (ha : a.natAbs < 2 ^ 53) : floatToIntVal .f64 (W a) .i64 = some a := by
  obtain ⟨m, k, e1, h1, h2, h3, h4⟩ := is_W ha
  have hm : m = a.natAbs * 2 ^ k := by
    have : ((a.natAbs * 2 ^ k : Nat) : Int) = m := by push_cast; rw [h2]
    omega
  unfold floatToIntVal
  have hd : FloatKind.f64.decode (W a) = .number (decide (a < 0)) m (-(k : Int)) := e1
  rw [hd]
  have : Datum.toInt .zero (.number (decide (a < 0)) m (-(k : Int))) = some a := by
    unfold Datum.toInt Datum.integral
    simp only [Int.neg_neg, Int.toNat_natCast, show (-(k : Int)).toNat = 0 by omega, Nat.shiftLeft_zero]
    have hc : Toward.zero.cut (decide (a < 0)) m k = a.natAbs := by
      unfold Toward.cut
      simp only [Bool.toNat_false, Nat.add_zero, Nat.shiftLeft_eq, Nat.one_mul]
      by_cases h0 : a.natAbs = 0
      · rw [hm, h0]; simp
      · have hl := log2_scaled (M := a.natAbs) (K := k) (by omega)
        rw [← hm] at hl
        rw [show min k (m.log2 + 2) = k by omega, hm, Nat.mul_div_cancel _ (Nat.two_pow_pos k)]
    rw [hc]
    congr 1
    unfold Ieee.signed
    simp only [Nat.shiftLeft_zero]
    by_cases h : a < 0
    · simp [h]; omega
    · simp [h]; omega
  rw [this]
  simp only
  rw [if_pos]
  have h1 : IntKind.i64.min = -9223372036854775808 := by decide
  have h2 : IntKind.i64.max = 9223372036854775807 := by decide
  rw [h1, h2]; omega

end Go.Proofs.Ytackgamdjeidmaa

/- Quarter turns: plain facts. No program in sight. -/
import Derived.Test.YtackgamdjeidmaaTurnB
namespace Go.Proofs.Ytackgamdjeidmaa

theorem rotN_add (m n : Nat) (z : Int × Int) : rotN (m + n) z = rotN m (rotN n z) := by
  induction m with
  | zero => rw [Nat.zero_add]; rfl
  | succ m ih => rw [Nat.succ_add]; show rot _ = rot _; rw [ih]

theorem rotN_four (z : Int × Int) : rotN 4 z = z := by
  show (- -z.1, - -z.2) = z
  rw [Int.neg_neg, Int.neg_neg]

theorem rotN_mod (m : Nat) (z : Int × Int) : rotN (m % 4) z = rotN m z := by
  have h : ∀ q r, rotN (r + 4 * q) z = rotN r z := by
    intro q
    induction q with
    | zero => intro r; rfl
    | succ q ih => intro r; rw [show r + 4 * (q + 1) = (r + 4 * q) + 4 by omega, rotN_add, rotN_four]; exact ih r
  conv => rhs; rw [← Nat.mod_add_div m 4]
  exact (h _ _).symm

theorem rotN_natCast (m : Nat) (z : Int × Int) : rotN ((m : Int) % 4).toNat z = rotN m z := by
  rw [← rotN_mod m z]; congr 1

/-- A sum of two, part by part. -/
def addZ (a b : Int × Int) : Int × Int := (a.1 + b.1, a.2 + b.2)
def subZ (a b : Int × Int) : Int × Int := (a.1 - b.1, a.2 - b.2)

theorem rotN_addZ (m : Nat) (a b : Int × Int) : rotN m (addZ a b) = addZ (rotN m a) (rotN m b) := by
  induction m with
  | zero => rfl
  | succ m ih =>
    show rot (rotN m _) = addZ (rot _) (rot _)
    rw [ih]
    show (-(_ + _), _) = ((_, _) : Int × Int)
    rw [Int.neg_add]; rfl

theorem rotN_scale (m : Nat) (c : Int) : rotN m (c, 0) = (c * (rotN m (1, 0)).1, c * (rotN m (1, 0)).2) := by
  induction m with
  | zero => simp [rotN]
  | succ m ih =>
    show rot (rotN m _) = _
    rw [ih]
    show (-(c * _), c * _) = (c * -_, c * _)
    rw [Int.mul_neg]; rfl

theorem sumL_snoc' (l : List UInt8) (c : UInt8) : sumL (l ++ [c]) = addZ (rot (sumL l)) ((c.toNat : Int), 0) := by
  rw [sumL_snoc]; simp [addZ, rot]

theorem sumL_append (a b : List UInt8) : sumL (a ++ b) = addZ (rotN b.length (sumL a)) (sumL b) := by
  have key : ∀ n, ∀ b : List UInt8, b.length = n → sumL (a ++ b) = addZ (rotN b.length (sumL a)) (sumL b) := by
    intro n
    induction n with
    | zero => intro b hb; rw [List.length_eq_zero_iff.1 hb]; simp [rotN, addZ, sumL]
    | succ n ih =>
      intro b hb
      have hne : b ≠ [] := by intro h; simp [h] at hb
      have e := (List.dropLast_concat_getLast hne).symm
      have hd : b.dropLast.length = n := by simp [hb]
      have h1 := ih _ hd
      rw [e, ← List.append_assoc, sumL_snoc', h1, sumL_snoc', hd, List.length_append, hd, List.length_singleton]
      show (_, _) = ((_, _) : Int × Int)
      simp only [addZ, rot, rotN]
      congr 1 <;> omega
  exact key _ b rfl

/-- The reference's sum behind k rounds of n. -/
def partL (l : List UInt8) (k : Nat) : Int × Int := rotN (l.length - k) (sumL (l.take k))

theorem partL_zero (l : List UInt8) : partL l 0 = (0, 0) := by
  have h : ∀ m, rotN m (0, 0) = (0, 0) := by
    intro m
    induction m with
    | zero => rfl
    | succ m ih => show rot (rotN m _) = _; rw [ih]; rfl
  unfold partL; rw [List.take_zero]; exact h _
theorem partL_all (l : List UInt8) (k : Nat) (h : l.length ≤ k) : partL l k = sumL l := by
  unfold partL; rw [List.take_of_length_le h, Nat.sub_eq_zero_of_le h]; rfl
theorem partL_le (l : List UInt8) (k : Nat) : (partL l k).1.natAbs ≤ 255 * k ∧ (partL l k).2.natAbs ≤ 255 * k := by
  have h1 := sumL_le (l.take k)
  have h2 := List.length_take_le k l
  exact rotN_le _ _ _ (by omega) (by omega)
theorem partL_succ (l : List UInt8) (k : Nat) (h : k < l.length) :
    partL l (k + 1) = ((partL l k).1 + (l[k].toNat : Int) * (rotN (l.length - 1 - k) (1, 0)).1, (partL l k).2 + (l[k].toNat : Int) * (rotN (l.length - 1 - k) (1, 0)).2) := by
  unfold partL
  rw [List.take_succ_eq_append_getElem h, sumL_snoc', rotN_addZ, rotN_scale, show l.length - (k + 1) = l.length - 1 - k by omega]
  have : rotN (l.length - 1 - k) (rot (sumL (l.take k))) = rotN (l.length - k) (sumL (l.take k)) := by
    rw [show l.length - k = l.length - 1 - k + 1 by omega, rotN_add]; rfl
  rw [this]; rfl

theorem rotN_one (m : Nat) : -1 ≤ (rotN m (1, 0)).1 ∧ (rotN m (1, 0)).1 ≤ 1 ∧ -1 ≤ (rotN m (1, 0)).2 ∧ (rotN m (1, 0)).2 ≤ 1 := by
  have := rotN_le m (1, 0) 1 (by decide) (by decide)
  omega
theorem scaled_le (c : UInt8) (p : Int) (h1 : -1 ≤ p) (h2 : p ≤ 1) : -255 ≤ (c.toNat : Int) * p ∧ (c.toNat : Int) * p ≤ 255 := by
  have hc := c.toNat_lt
  have : p = -1 ∨ p = 0 ∨ p = 1 := by omega
  rcases this with rfl | rfl | rfl <;> omega
end Go.Proofs.Ytackgamdjeidmaa

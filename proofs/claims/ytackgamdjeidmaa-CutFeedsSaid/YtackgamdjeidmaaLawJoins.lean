/- The contracts that TurnJoins and TurnRolls meet, each with its answer in the form that the law compares. -/
import Derived.Test.YtackgamdjeidmaaLawB
import Derived.Test.YtackgamdjeidmaaPost
namespace Go.Proofs.Ytackgamdjeidmaa
open Go.RowKit

theorem rotN_zero (m : Nat) : rotN m (0, 0) = (0, 0) := by
  induction m with
  | zero => rfl
  | succ m ih => show rot (rotN m _) = _; rw [ih]; rfl

theorem sum_of (s : ByteArray) (x y : Int) (h : sumL s.data.toList = (x, y)) (hs : s.size ≤ 6000) (w : World) :
    Calls Try.prog 14 #[.string s] w fun e w' => e = .returned (.complex .f64 (W x) (W y)) ∧ ∃ n, w' = w.drewN n := by
  have h1 := sum_any s w hs
  rwa [h] at h1

theorem join_of (n : Nat) (a b x y : Int) (c d : Int) (h : addZ (rotN n (a, b)) (c, d) = (x, y)) (h1 : a.natAbs ≤ 2 ^ 40) (h2 : b.natAbs ≤ 2 ^ 40) (h3 : c.natAbs ≤ 2 ^ 40) (h4 : d.natAbs ≤ 2 ^ 40) (w : World) :
    Calls Try.prog 20 #[.complex .f64 (W a) (W b), .complex .f64 (W c) (W d), .int .i64 n] w fun e w' => e = .returned (.complex .f64 (W x) (W y)) ∧ w = w' := by
  have hj := join_any n a b c d _ _ _ _ w (Or.inl rfl) (Or.inl rfl) (Or.inl rfl) (Or.inl rfl) h1 h2 h3 h4
  rw [rotN_natCast] at hj
  have e1 : (rotN n (a, b)).1 + c = x := congrArg Prod.fst h
  have e2 : (rotN n (a, b)).2 + d = y := congrArg Prod.snd h
  rwa [e1, e2] at hj

theorem rotN_back (n : Nat) (z : Int × Int) : rotN ((-(n : Int)) % 4).toNat (rotN n z) = z := by
  rw [← rotN_add]
  have h : (((-(n : Int)) % 4).toNat + n) % 4 = 0 := by omega
  rw [← rotN_mod, h]; rfl

theorem less_of (n : Nat) (hn : n ≤ 1000000) (a b c d x y : Int) (h : subZ (a, b) (c, d) = rotN n (x, y)) (h1 : a.natAbs ≤ 2 ^ 40) (h2 : b.natAbs ≤ 2 ^ 40) (h3 : c.natAbs ≤ 2 ^ 40) (h4 : d.natAbs ≤ 2 ^ 40) (w : World) :
    Calls Try.prog 21 #[.complex .f64 (W a) (W b), .complex .f64 (W c) (W d), .int .i64 n] w fun e w' => e = .returned (.complex .f64 (W x) (W y)) ∧ w = w' := by
  have hl := less_any n a b c d _ _ _ _ w (Or.inl rfl) (Or.inl rfl) (Or.inl rfl) (Or.inl rfl) (by omega) (by omega) h1 h2 h3 h4
  rw [show (a - c, b - d) = rotN n (x, y) from h, rotN_back] at hl
  exact hl

/-- The sum rolled on by a byte. -/
theorem roll_sum (l : List UInt8) (o i : UInt8) : sumL (l ++ [i]) = subZ (addZ (rot (sumL (o :: l))) ((i.toNat : Int), 0)) (rotN (l.length + 1) ((o.toNat : Int), 0)) := by
  have h1 : sumL (o :: l) = addZ (rotN l.length ((o.toNat : Int), 0)) (sumL l) := by
    rw [show o :: l = [o] ++ l from rfl, sumL_append]; simp [sumL]
  rw [sumL_snoc', h1]
  show addZ (rot (sumL l)) _ = subZ (addZ (rot (addZ _ _)) _) (rot (rotN l.length _))
  simp only [addZ, subZ, rot]
  congr 1 <;> omega

theorem roll_of (n : Nat) (o i : UInt8) (l : List UInt8) (hl : l.length + 1 = n) (p q x y : Int) (h0 : sumL (o :: l) = (p, q)) (h : sumL (l ++ [i]) = (x, y)) (h1 : p.natAbs ≤ 2 ^ 40) (h2 : q.natAbs ≤ 2 ^ 40) (w : World) :
    Calls Try.prog 22 #[.complex .f64 (W p) (W q), .int .i64 n, .int .u8 o.toNat, .int .u8 i.toNat] w fun e w' => e = .returned (.complex .f64 (W x) (W y)) ∧ w = w' := by
  have hr := roll_any n p q o i w h1 h2
  rw [rotN_natCast] at hr
  have e := roll_sum l o i
  rw [h, h0, hl] at e
  have e1 : x = -q + (i.toNat : Int) - (rotN n ((o.toNat : Int), 0)).1 := congrArg Prod.fst e
  have e2 : y = p + 0 - (rotN n ((o.toNat : Int), 0)).2 := congrArg Prod.snd e
  rw [Int.add_zero] at e2
  rwa [← e1, ← e2] at hr

/-- The sum of the window of m bytes from q on. -/
def winS (s : ByteArray) (m q : Nat) : Int × Int := sumL ((s.data.toList.drop q).take m)

theorem winS_le (s : ByteArray) (m q : Nat) : (winS s m q).1.natAbs ≤ 255 * m ∧ (winS s m q).2.natAbs ≤ 255 * m := by
  have h := sumL_le ((s.data.toList.drop q).take m)
  have := List.length_take_le m (s.data.toList.drop q)
  unfold winS; omega

theorem sum_win (s : ByteArray) (m q r : Nat) (h : r = q + m) (hm : m ≤ 3000) (w : World) :
    Calls Try.prog 14 #[.string (s.extract q r)] w fun e w' => e = .returned (.complex .f64 (W (winS s m q).1) (W (winS s m q).2)) ∧ ∃ n, w' = w.drewN n := by
  subst h
  refine sum_of _ _ _ ?_ (by simp; omega) w
  unfold winS
  rw [ByteArray.data_extract, Array.toList_extract, List.extract_eq_take_drop, show q + m - q = m by omega]

theorem win_parts (s : ByteArray) (m q : Nat) (hm : 1 ≤ m) (h : q + m < s.size) :
    (s.data.toList.drop q).take m = s[q] :: (s.data.toList.drop (q + 1)).take (m - 1) ∧
    (s.data.toList.drop (q + 1)).take m = (s.data.toList.drop (q + 1)).take (m - 1) ++ [s[q + m]] ∧ ((s.data.toList.drop (q + 1)).take (m - 1)).length + 1 = m := by
  obtain ⟨m, rfl⟩ : ∃ k, m = k + 1 := ⟨m - 1, by omega⟩
  have hl : s.data.toList.length = s.size := by simp
  refine ⟨?_, ?_, ?_⟩
  · rw [List.drop_eq_getElem_cons (by omega), List.take_succ_cons]; rfl
  · rw [List.take_succ_eq_append_getElem (by simp; omega)]
    simp only [Nat.add_sub_cancel, List.getElem_drop]
    congr 2
    show s.data.toList[q + 1 + m] = s.data[q + (m + 1)]
    simp only [Array.getElem_toList]
    congr 1; omega
  · simp; omega

theorem roll_win (s : ByteArray) (m q : Nat) (hm : 1 ≤ m) (hm2 : m ≤ 3000) (h : q + m < s.size) (w : World) :
    Calls Try.prog 22 #[.complex .f64 (W (winS s m q).1) (W (winS s m q).2), .int .i64 m, .int .u8 (s[q]'(by omega)).toNat, .int .u8 (s[q + m]).toNat] w fun e w' =>
      e = .returned (.complex .f64 (W (winS s m (q + 1)).1) (W (winS s m (q + 1)).2)) ∧ w = w' := by
  obtain ⟨e1, e2, e3⟩ := win_parts s m q hm h
  have hb := winS_le s m q
  refine roll_of m _ _ ((s.data.toList.drop (q + 1)).take (m - 1)) e3 _ _ _ _ ?_ ?_ (by omega) (by omega) w
  · rw [← e1]; rfl
  · rw [← e2]; rfl
end Go.Proofs.Ytackgamdjeidmaa

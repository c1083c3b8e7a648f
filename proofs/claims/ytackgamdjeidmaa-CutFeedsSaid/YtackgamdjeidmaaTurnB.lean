/- The walks over turn.Join, Less, Roll and Cell. -/
import Derived.Test.YtackgamdjeidmaaTurn
namespace Go.Proofs.Ytackgamdjeidmaa
open Go.RowKit

theorem cadd_fl {a b c d : Int} {x y u v : Nat} (hx : Fl x a) (hy : Fl y b) (hu : Fl u c) (hv : Fl v d) (h1 : a.natAbs ≤ 2 ^ 50) (h2 : b.natAbs ≤ 2 ^ 50) (h3 : c.natAbs ≤ 2 ^ 50) (h4 : d.natAbs ≤ 2 ^ 50) :
    ∃ r q, (∀ (t : TypeId) (w : World), (binOp .add t (.complex .f64 x y) (.complex .f64 u v)).run Try.prog w = .ok (.complex .f64 r q) w) ∧ Fl r (a + c) ∧ Fl q (b + d) := by
  obtain ⟨r, e1, f1⟩ := add_fl hx hu (by omega) (by omega) (by omega)
  obtain ⟨q, e2, f2⟩ := add_fl hy hv (by omega) (by omega) (by omega)
  refine ⟨r, q, fun t w => ?_, f1, f2⟩
  refine run_complex_sum w .add (Or.inl rfl) t .f64 _ _ _ _ _ _ ?_
  show ((Ieee.double.add _ _).bind fun re => (Ieee.double.add _ _).bind fun im => some (re, im)) = _
  rw [e1, e2]; rfl

theorem csub_fl {a b c d : Int} {x y u v : Nat} (hx : Fl x a) (hy : Fl y b) (hu : Fl u c) (hv : Fl v d) (h1 : a.natAbs ≤ 2 ^ 50) (h2 : b.natAbs ≤ 2 ^ 50) (h3 : c.natAbs ≤ 2 ^ 50) (h4 : d.natAbs ≤ 2 ^ 50) :
    ∃ r q, (∀ (t : TypeId) (w : World), (binOp .sub t (.complex .f64 x y) (.complex .f64 u v)).run Try.prog w = .ok (.complex .f64 r q) w) ∧ Fl r (a - c) ∧ Fl q (b - d) := by
  obtain ⟨r, e1, f1⟩ := sub_fl hx hu (by omega) (by omega) (by omega)
  obtain ⟨q, e2, f2⟩ := sub_fl hy hv (by omega) (by omega) (by omega)
  refine ⟨r, q, fun t w => ?_, f1, f2⟩
  refine run_complex_sum w .sub (Or.inr rfl) t .f64 _ _ _ _ _ _ ?_
  show ((Ieee.double.sub _ _).bind fun re => (Ieee.double.sub _ _).bind fun im => some (re, im)) = _
  rw [e1, e2]; rfl

set_option maxHeartbeats 400000 in
theorem join_any (n a b c d : Int) (x y u v : Nat) (w : World) (hx : Fl x a) (hy : Fl y b) (hu : Fl u c) (hv : Fl v d)
    (h1 : a.natAbs ≤ 2 ^ 40) (h2 : b.natAbs ≤ 2 ^ 40) (h3 : c.natAbs ≤ 2 ^ 40) (h4 : d.natAbs ≤ 2 ^ 40) :
    Calls Try.prog 20 #[.complex .f64 x y, .complex .f64 u v, .int .i64 n] w fun e w' =>
      e = .returned (.complex .f64 (W ((rotN (n % 4).toNat (a, b)).1 + c)) (W ((rotN (n % 4).toNat (a, b)).2 + d))) ∧ w = w' := by
  have hr := rotN_le (n % 4).toNat (a, b) (2 ^ 40) h1 h2
  go_enter Try.func20, Try.ntmps20
  go_wp2_with fail
  refine (many_any n a b x y w hx hy (by omega) (by omega)).mono ?_
  rintro e w' ⟨v1, rfl, ⟨x1, y1, rfl, f1, f2⟩, rfl⟩
  obtain ⟨r, q, hadd, g1, g2⟩ := cadd_fl f1 f2 hu hv (by omega) (by omega) (by omega) (by omega)
  go_wp2_with (go_at_call 31; refine (plain_any _ _ _ _ _ (by omega) (by omega) g1 g2).mono ?_; rintro e w' ⟨rfl, rfl⟩)
  go_ret
  exact ⟨rfl, rfl⟩

set_option maxHeartbeats 400000 in
theorem less_any (n a b c d : Int) (x y u v : Nat) (w : World) (hx : Fl x a) (hy : Fl y b) (hu : Fl u c) (hv : Fl v d) (hn : 0 ≤ n) (hn2 : n ≤ 1000000)
    (h1 : a.natAbs ≤ 2 ^ 40) (h2 : b.natAbs ≤ 2 ^ 40) (h3 : c.natAbs ≤ 2 ^ 40) (h4 : d.natAbs ≤ 2 ^ 40) :
    Calls Try.prog 21 #[.complex .f64 x y, .complex .f64 u v, .int .i64 n] w fun e w' =>
      e = .returned (.complex .f64 (W (rotN ((-n) % 4).toNat (a - c, b - d)).1) (W (rotN ((-n) % 4).toNat (a - c, b - d)).2)) ∧ w = w' := by
  have hr := rotN_le ((-n) % 4).toNat (a - c, b - d) (2 ^ 42) (by omega) (by omega)
  obtain ⟨r, q, hsub, g1, g2⟩ := csub_fl hx hy hu hv (by omega) (by omega) (by omega) (by omega)
  go_enter Try.func21, Try.ntmps21
  go_wp2_with fail
  refine (many_any (-n) (a - c) (b - d) _ _ w g1 g2 (by omega) (by omega)).mono ?_
  rintro e w' ⟨v1, rfl, ⟨x1, y1, rfl, f1, f2⟩, rfl⟩
  go_wp2_with (go_at_call 31; refine (plain_any _ _ _ _ _ (by omega) (by omega) f1 f2).mono ?_; rintro e w' ⟨rfl, rfl⟩)
  go_ret
  exact ⟨rfl, rfl⟩

set_option maxHeartbeats 400000 in
theorem roll_any (n p q : Int) (o i : UInt8) (w : World) (h1 : p.natAbs ≤ 2 ^ 40) (h2 : q.natAbs ≤ 2 ^ 40) :
    Calls Try.prog 22 #[.complex .f64 (W p) (W q), .int .i64 n, .int .u8 o.toNat, .int .u8 i.toNat] w fun e w' =>
      e = .returned (.complex .f64 (W (-q + (i.toNat : Int) - (rotN (n % 4).toNat ((o.toNat : Int), 0)).1)) (W (p - (rotN (n % 4).toNat ((o.toNat : Int), 0)).2))) ∧ w = w' := by
  have ho := o.toNat_lt
  have hi := i.toNat_lt
  have hr := rotN_le (n % 4).toNat ((o.toNat : Int), 0) 256 (by omega) (by omega)
  have hst := turn_step p q i (by omega) (by omega)
  go_enter Try.func22, Try.ntmps22
  go_wp2_with (go_at_call 30; refine (turned_any _ _ _).mono ?_; rintro e w' ⟨rfl, rfl⟩)
  refine (many_any n (o.toNat : Int) 0 _ _ w (Or.inl rfl) (Or.inl W_zero.symm) (by omega) (by omega)).mono ?_
  rintro e w' ⟨v1, rfl, ⟨x1, y1, rfl, f1, f2⟩, rfl⟩
  obtain ⟨r, s, hsub, g1, g2⟩ := csub_fl (Or.inl rfl : Fl (W (-q + (i.toNat : Int))) _) (Or.inl rfl : Fl (W p) _) f1 f2 (by omega) (by omega) (by omega) (by omega)
  go_wp2_with (go_at_call 31; refine (plain_any _ _ _ _ _ (by omega) (by omega) g1 g2).mono ?_; rintro e w' ⟨rfl, rfl⟩)
  go_ret
  exact ⟨rfl, rfl⟩

theorem ret_int {k : IntKind} {a b : Int} (h : a = b) : Ending.returned (.int k a) = .returned (.int k b) := by rw [h]

theorem most_lo : (14055734437023318016 : Nat) = W (-1125899906842624) := by decide
theorem most_hi : (4832362400168542208 : Nat) = W 1125899906842624 := by decide

theorem above_most {p : Int} (h : p.natAbs ≤ 2 ^ 40) : (FloatKind.f64.format.order (W p) 14055734437023318016 == some .gt) = true := by
  rw [most_lo]
  show (Ieee.double.order (W p) _ == some .gt) = true
  rw [order_W (by omega) (by decide), Int.compare_eq_gt.2 (by omega)]; rfl
theorem below_most {p : Int} (h : p.natAbs ≤ 2 ^ 40) : (FloatKind.f64.format.order (W p) 4832362400168542208 == some .lt) = true := by
  rw [most_hi]
  show (Ieee.double.order (W p) _ == some .lt) = true
  rw [order_W (by omega) (by decide), Int.compare_eq_lt.2 (by omega)]; rfl

theorem conv_W {p : Int} (h : p.natAbs ≤ 2 ^ 40) (w : World) : (convert 48 3 (.float .f64 (W p))).run Try.prog w = .ok (.int .i64 p) w :=
  run_convert_float_int w 48 3 .f64 .i64 _ _ (by rw [Try.underlying48]; rfl) Try.underlying3 (toInt_W (by omega))

theorem emod_of_tmod (a n : Int) : a % n = a.tmod n % n := by
  have := Int.mul_tdiv_add_tmod a n
  conv => lhs; rw [← this]
  exact Int.mul_add_emod_self_left ..
theorem emod_neg (a n : Int) (hn : 1 ≤ n) (h : a.tmod n < 0) : a.tmod n + n = a % n := by
  have h1 := Int.lt_tmod_of_pos a (b := n) (by omega)
  rw [emod_of_tmod, ← Int.add_emod_right, Int.emod_eq_of_lt (by omega) (by omega)]
theorem emod_pos (a n : Int) (hn : 1 ≤ n) (h : 0 ≤ a.tmod n) : a.tmod n = a % n := by
  rw [emod_of_tmod, Int.emod_eq_of_lt h (Int.tmod_lt_of_pos a (by omega))]

set_option maxHeartbeats 400000 in
theorem cell_any (n p q : Int) (w : World) (h1 : p.natAbs ≤ 2 ^ 40) (h2 : q.natAbs ≤ 2 ^ 40) (hn : 1 ≤ n) (hn2 : n ≤ 2000000) :
    Calls Try.prog 18 #[.complex .f64 (W p) (W q), .int .i64 n] w fun e w' => e = .returned (.int .i64 ((p + 3 * q) % n)) ∧ w = w' := by
  have a1 := above_most h1
  have a2 := above_most h2
  have b1 := below_most h1
  have b2 := below_most h2
  have c1 := conv_W h1
  have c2 := conv_W h2
  have d1 : -1099511627776 ≤ p := by omega
  have d2 : p ≤ 1099511627776 := by omega
  have d3 : -1099511627776 ≤ q := by omega
  have d4 : q ≤ 1099511627776 := by omega
  clear h1 h2
  have e1 := Int.lt_tmod_of_pos (p + 3 * q) (b := n) (by omega)
  have e2 := Int.tmod_lt_of_pos (p + 3 * q) (b := n) (by omega)
  go_enter Try.func18, Try.ntmps18
  go_wp2
  · have h : (p + 3 * q).tmod n < 0 := by assumption
    go_ret
    exact ⟨ret_int (emod_neg _ n hn h), rfl⟩
  · have h : 0 ≤ (p + 3 * q).tmod n := by assumption
    go_ret
    exact ⟨ret_int (emod_pos _ n hn h), rfl⟩
end Go.Proofs.Ytackgamdjeidmaa

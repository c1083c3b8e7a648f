/- The walks over the law's helpers of layer 2: awake, is. -/
import Derived.Test.YtackgamdjeidmaaRefB
namespace Go.Proofs.Ytackgamdjeidmaa
open Go.RowKit

theorem order_self {a : Int} (ha : a.natAbs ≤ 2 ^ 50) : (FloatKind.f64.format.order (W a) (W a) == some .eq) = true := by
  show (Ieee.double.order (W a) (W a) == some .eq) = true
  rw [order_W (by omega) (by omega)]; simp

set_option maxHeartbeats 400000 in
theorem is_any (a b : Int) (w : World) (ha : a.natAbs ≤ 2 ^ 50) (hb : b.natAbs ≤ 2 ^ 50) :
    Calls Try.prog 13 #[.complex .f64 (W a) (W b), .agg #[.int .i64 a, .int .i64 b]] w fun e w' => e = .returned (.bool true) ∧ Below w.heap.size w w' := by
  have h1 := order_self ha
  have h2 := order_self hb
  clear ha hb
  go_enter Try.func13, Try.ntmps13
  go_wp2
  go_ret
  exact ⟨rfl, (Below.refl _ _).alloc (Nat.le_refl _) _⟩

theorem sum_ab (w : World) : Calls Try.prog 14 #[.string ⟨#[97, 98]⟩] w fun e w' => e = .returned (.complex .f64 4636596553866280960 4636526185122103296) ∧ ∃ n, w' = w.drewN n := by
  have h := sum_any ⟨#[97, 98]⟩ w (by decide)
  rw [show W (sumL (ByteArray.mk #[97, 98]).data.toList).1 = 4636596553866280960 by decide, show W (sumL (ByteArray.mk #[97, 98]).data.toList).2 = 4636526185122103296 by decide] at h
  exact h
theorem sum_abc (w : World) : Calls Try.prog 14 #[.string ⟨#[97, 98, 99]⟩] w fun e w' => e = .returned (.complex .f64 4611686018427387904 4636596553866280960) ∧ ∃ n, w' = w.drewN n := by
  have h := sum_any ⟨#[97, 98, 99]⟩ w (by decide)
  rw [show W (sumL (ByteArray.mk #[97, 98, 99]).data.toList).1 = 4611686018427387904 by decide, show W (sumL (ByteArray.mk #[97, 98, 99]).data.toList).2 = 4636596553866280960 by decide] at h
  exact h
theorem power_2 (w : World) : Calls Try.prog 16 #[.int .i64 2] w fun e w' => e = .returned (.complex .f64 13830554455654793216 0) ∧ w = w' := by
  have h := power_any 2 w
  rw [show W (rotN ((2 : Int) % 4).toNat (1, 0)).1 = 13830554455654793216 by decide, show W (rotN ((2 : Int) % 4).toNat (1, 0)).2 = 0 by decide] at h
  exact h
theorem cell_389 (w : World) : Calls Try.prog 18 #[.complex .f64 4636596553866280960 4636526185122103296, .int .i64 1000] w fun e w' => e = .returned (.int .i64 389) ∧ w = w' := by
  have h := cell_any 1000 98 97 w (by decide) (by decide) (by decide) (by decide)
  rw [show W 98 = 4636596553866280960 by decide, show W 97 = 4636526185122103296 by decide] at h
  exact h

set_option maxHeartbeats 400000 in
theorem awake_any (w : World) : Calls Try.prog 12 #[] w fun e w' => e = .returned (.bool true) ∧ ∃ n, w' = w.drewN n := by
  have o1 : (FloatKind.f64.format.order 4636596553866280960 4636596553866280960 == some .eq) = true := by decide
  have o2 : (FloatKind.f64.format.order 4636526185122103296 4636526185122103296 == some .eq) = true := by decide
  have o3 : (FloatKind.f64.format.order 4611686018427387904 4611686018427387904 == some .eq) = true := by decide
  have o4 : (FloatKind.f64.format.order 13830554455654793216 13830554455654793216 == some .eq) = true := by decide
  have o5 : (FloatKind.f64.format.order 0 0 == some .eq) = true := by decide
  go_enter Try.func12, Try.ntmps12
  go_wp2_with fail
  refine (sum_ab _).mono ?_
  rintro e w' ⟨rfl, n1, rfl⟩
  go_wp2_with fail
  refine (sum_abc _).mono ?_
  rintro e w' ⟨rfl, n2, rfl⟩
  go_wp2_with fail
  refine (power_2 _).mono ?_
  rintro e w' ⟨rfl, rfl⟩
  go_wp2_with fail
  refine (cell_389 _).mono ?_
  rintro e w' ⟨rfl, rfl⟩
  go_wp2
  go_ret
  exact ⟨rfl, n1 + n2, rfl⟩
end Go.Proofs.Ytackgamdjeidmaa

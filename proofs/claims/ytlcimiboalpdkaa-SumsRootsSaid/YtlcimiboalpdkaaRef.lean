/- The walks over the reference's low, right, small, great. -/
import Derived.Test.YtlcimiboalpdkaaRot
namespace Go.Proofs.Ytlcimiboalpdkaa
open Go.RowKit

theorem low_any (x : Nat) (w : World) : Calls Try.prog 25 #[.int .u64 x] w fun e w' => e = .returned (.int .u64 (x % 4294967296 : Nat)) ∧ w = w' := by
  have hm : (x : Int).tmod 4294967296 = ((x % 4294967296 : Nat) : Int) := by rw [Int.tmod_eq_emod_of_nonneg (by omega)]; rfl
  have hm2 : (x : Int) % 4294967296 = ((x % 4294967296 : Nat) : Int) := rfl
  generalize x % 4294967296 = y at *
  go_enter Try.func25, Try.ntmps25
  go_wp2_with fail
  go_ret
  exact ⟨rfl, rfl⟩

theorem shl_lt (x s : Nat) (hx : x < 4294967296) (h2 : s ≤ 31) : x * 2 ^ s < 18446744073709551616 := by
  have h3 : 2 ^ s ≤ 2 ^ 31 := Nat.pow_le_pow_right (by decide) h2
  calc x * 2 ^ s ≤ x * 2 ^ 31 := Nat.mul_le_mul_left _ h3
    _ < 18446744073709551616 := by omega
theorem right_any (x p s : Nat) (hs : 32 - p = s) (h1 : 1 ≤ p) (h2 : p ≤ 31) (hx : x < 4294967296) (w : World) :
    Calls Try.prog 35 #[.int .u64 x, .int .u64 p] w fun e w' => e = .returned (.int .u64 (rotr x p : Nat)) ∧ w = w' := by
  have hsub : IntKind.u64.wrap (32 - (p : Int)) = (s : Int) := by rw [Go.IntWalk.u64_in _ (by omega)]; omega
  have hsub2 : (32 : Int) - (p : Int) = (s : Int) := by omega
  have hsh := shl_lt x s hx (by omega)
  have hdv : x / 2 ^ p ≤ x := Nat.div_le_self _ _
  obtain ⟨y, hy⟩ : ∃ y, y = x * 2 ^ s := ⟨_, rfl⟩
  obtain ⟨z, hz⟩ : ∃ z, z = x / 2 ^ p := ⟨_, rfl⟩
  have e1 : (x : Int) * 2 ^ s = (y : Int) := by rw [hy, Int.natCast_mul, Int.natCast_pow]; rfl
  have e2 : (x : Int) / 2 ^ p = (z : Int) := by rw [hz, Int.natCast_ediv, Int.natCast_pow]; rfl
  have HR : Hid (rotr x p = y % 4294967296 + z) := by show _ = _; unfold rotr; rw [hs, ← hy, ← hz]
  have ly : y < 18446744073709551616 := by rw [hy]; exact hsh
  have lz : z < 4294967296 := by omega
  clear hy hz hsh hdv
  rw [HR.out]
  go_enter Try.func35, Try.ntmps35
  go_wp2_with fail
  refine (low_any y _).mono ?_
  rintro e w' ⟨rfl, rfl⟩
  obtain ⟨r, hr⟩ : ∃ r, r = y % 4294967296 := ⟨_, rfl⟩
  rw [← hr]
  have lr : r < 4294967296 := by omega
  have HR2 := Lib.hid hr
  clear hr
  go_wp2_with fail
  go_ret
  exact ⟨ret_int (by have := HR2.out; omega), rfl⟩

theorem right_int (x : Nat) (p : Int) (hp : 1 ≤ p ∧ p ≤ 31) (hx : x < 4294967296) (w : World) :
    Calls Try.prog 35 #[.int .u64 x, .int .u64 p] w fun e w' => e = .returned (.int .u64 (rotr x p.toNat : Nat)) ∧ w = w' := by
  have h := right_any x p.toNat _ rfl (by omega) (by omega) hx w
  rw [Int.toNat_of_nonneg (by omega)] at h
  exact h

theorem u64_xor (a b : Nat) (ha : a < 4294967296) (hb : b < 4294967296) : bits .xor .u64 (a : Int) (b : Int) = ((a ^^^ b : Nat) : Int) := u64_xor_nat a b (by omega) (by omega)
theorem u64_xor3 {a b c : Nat} (ha : a < 4294967296) (hb : b < 4294967296) (hc : c < 4294967296) : bits .xor .u64 (bits .xor .u64 (a : Int) (b : Int)) (c : Int) = ((a ^^^ b ^^^ c : Nat) : Int) := by
  rw [u64_xor a b ha hb, u64_xor _ c (Nat.xor_lt_two_pow (n := 32) ha hb) hc]

theorem great_any (x : Nat) (p q r : Int) (hx : x < 4294967296) (hp : 1 ≤ p ∧ p ≤ 31) (hq : 1 ≤ q ∧ q ≤ 31) (hr : 1 ≤ r ∧ r ≤ 31) (w : World) :
    Calls Try.prog 27 #[.int .u64 x, .int .u64 p, .int .u64 q, .int .u64 r] w fun e w' => e = .returned (.int .u64 (turn3 x p.toNat q.toNat r.toNat : Nat)) ∧ w = w' := by
  have HX := Lib.hid (u64_xor3 (rotr_lt (p := p.toNat) (by omega) (by omega) hx).1 (rotr_lt (p := q.toNat) (by omega) (by omega) hx).1 (rotr_lt (p := r.toNat) (by omega) (by omega) hx).1)
  have HT : Hid (turn3 x p.toNat q.toNat r.toNat = rotr x p.toNat ^^^ rotr x q.toNat ^^^ rotr x r.toNat) := rfl
  have A := Lib.hid (fun v => right_int x p hp hx v)
  have B := Lib.hid (fun v => right_int x q hq hx v)
  have D := Lib.hid (fun v => right_int x r hr hx v)
  rw [HT.out]
  generalize rotr x p.toNat = xp at *
  generalize rotr x q.toNat = xq at *
  generalize rotr x r.toNat = xr at *
  go_enter Try.func27, Try.ntmps27
  go_wp2_with fail
  refine (A.out _).mono ?_
  rintro e w' ⟨rfl, rfl⟩
  go_wp2_with fail
  refine (B.out _).mono ?_
  rintro e w' ⟨rfl, rfl⟩
  go_wp2_with fail
  refine (D.out _).mono ?_
  rintro e w' ⟨rfl, rfl⟩
  go_wp2_with fail
  rw [HX.out]
  go_ret
  exact ⟨rfl, rfl⟩

theorem small_any (x : Nat) (p q r : Int) (hx : x < 4294967296) (hp : 1 ≤ p ∧ p ≤ 31) (hq : 1 ≤ q ∧ q ≤ 31) (hr : 1 ≤ r ∧ r ≤ 31) (w : World) :
    Calls Try.prog 26 #[.int .u64 x, .int .u64 p, .int .u64 q, .int .u64 r] w fun e w' => e = .returned (.int .u64 (spread3 x p.toNat q.toNat r.toNat : Nat)) ∧ w = w' := by
  obtain ⟨n, rfl⟩ : ∃ n : Nat, r = n := ⟨r.toNat, by omega⟩
  have hdl : x / 2 ^ n < 4294967296 := Nat.lt_of_le_of_lt (Nat.div_le_self _ _) hx
  have HX := Lib.hid (u64_xor3 (rotr_lt (p := p.toNat) (by omega) (by omega) hx).1 (rotr_lt (p := q.toNat) (by omega) (by omega) hx).1 hdl)
  have HT : Hid (spread3 x p.toNat q.toNat (n : Int).toNat = rotr x p.toNat ^^^ rotr x q.toNat ^^^ x / 2 ^ n) := rfl
  have A := Lib.hid (fun v => right_int x p hp hx v)
  have B := Lib.hid (fun v => right_int x q hq hx v)
  rw [HT.out]
  have e2 : (x : Int) / 2 ^ n = ((x / 2 ^ n : Nat) : Int) := by rw [Int.natCast_ediv, Int.natCast_pow]; rfl
  generalize x / 2 ^ n = z at *
  generalize rotr x p.toNat = xp at *
  generalize rotr x q.toNat = xq at *
  clear HT
  go_enter Try.func26, Try.ntmps26
  go_wp2_with fail
  refine (A.out _).mono ?_
  rintro e w' ⟨rfl, rfl⟩
  go_wp2_with fail
  refine (B.out _).mono ?_
  rintro e w' ⟨rfl, rfl⟩
  go_wp2_with fail
  rw [HX.out]
  go_ret
  exact ⟨rfl, rfl⟩
end Go.Proofs.Ytlcimiboalpdkaa

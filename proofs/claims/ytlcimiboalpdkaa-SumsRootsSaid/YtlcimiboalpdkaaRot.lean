/- The walks over the turns of sums: math/bits.RotateLeft32, turned, spread. -/
import Derived.Test.YtlcimiboalpdkaaTab
namespace Go.Proofs.Ytlcimiboalpdkaa
open Go.RowKit

/-- Turned right in 32 bits. -/
def rotr (x n : Nat) : Nat := x * 2 ^ (32 - n) % 4294967296 + x / 2 ^ n

theorem rot_amount (p : Nat) (h1 : 1 ≤ p) (h2 : p ≤ 31) : bits .and .u64 (IntKind.u64.wrap (-(p : Int))) 31 = ((32 - p : Nat) : Int) := by
  have key : ∀ j : Fin 32, 1 ≤ j.val → bits .and .u64 (IntKind.u64.wrap (-((j.val : Nat) : Int))) 31 = ((32 - j.val : Nat) : Int) := by decide +kernel
  exact key ⟨p, by omega⟩ h1

theorem rotr_lt {x p : Nat} (hp1 : 1 ≤ p) (hp2 : p ≤ 31) (hx : x < 4294967296) : rotr x p < 4294967296 ∧ rotr x p = (x * 2 ^ (32 - p) % 4294967296 ||| x / 2 ^ p) := by
  have hpp : 2 ^ (32 - p) * 2 ^ p = 4294967296 := by rw [← Nat.pow_add, show 32 - p + p = 32 by omega]
  have e : x * 2 ^ (32 - p) % 4294967296 = 2 ^ (32 - p) * (x % 2 ^ p) := by
    rw [← hpp, Nat.mul_comm x, Nat.mul_mod_mul_left]
  have hb : x / 2 ^ p < 2 ^ (32 - p) := by
    rw [Nat.div_lt_iff_lt_mul (Nat.two_pow_pos p), hpp]; exact hx
  have h := Nat.two_pow_add_eq_or_of_lt hb (x % 2 ^ p)
  unfold rotr
  rw [e, h]
  refine ⟨?_, rfl⟩
  rw [← h]
  have hm : x % 2 ^ p + 1 ≤ 2 ^ p := Nat.mod_lt _ (Nat.two_pow_pos p)
  have := Nat.mul_le_mul_left (2 ^ (32 - p)) hm
  rw [hpp, Nat.mul_add, Nat.mul_one] at this
  omega

theorem rot_or (x s p : Nat) (hs : 32 - p = s) (hp1 : 1 ≤ p) (hp2 : p ≤ 31) (hx : x < 4294967296) :
    bits .or .u32 ((x : Int) * 2 ^ s % 4294967296) ((x : Int) / 2 ^ (32 - s)) = ((rotr x p : Nat) : Int) := by
  subst hs
  rw [show 32 - (32 - p) = p by omega]
  have h := rotr_lt hp1 hp2 hx
  rw [h.2]
  have e1 : (x : Int) * 2 ^ (32 - p) % 4294967296 = ((x * 2 ^ (32 - p) % 4294967296 : Nat) : Int) := by
    rw [Int.natCast_emod, Int.natCast_mul, Int.natCast_pow]; rfl
  have e2 : (x : Int) / 2 ^ p = ((x / 2 ^ p : Nat) : Int) := by
    rw [Int.natCast_ediv, Int.natCast_pow]; rfl
  rw [e1, e2]
  refine u32_or_nat _ _ (Nat.mod_lt _ (by decide)) (Nat.lt_of_le_of_lt (Nat.div_le_self _ _) hx)

set_option maxHeartbeats 400000 in
theorem rot_any (x p : Nat) (k : Int) (hk : k = -(p : Int)) (hp1 : 1 ≤ p) (hp2 : p ≤ 31) (hx : x < 4294967296) (w : World) :
    Calls Try.prog 41 #[.int .u32 x, .int .i64 k] w fun e w' => e = .returned (.int .u32 (rotr x p : Nat)) ∧ w = w' := by
  have ha := rot_amount p hp1 hp2
  rw [← hk] at ha
  obtain ⟨s, hs⟩ : ∃ s, 32 - p = s := ⟨_, rfl⟩
  rw [hs] at ha
  have hs1 : 1 ≤ s := by omega
  have hs2 : s ≤ 31 := by omega
  have HO := Lib.hid (rot_or x s p hs hp1 hp2 hx)
  have hk1 : -31 ≤ k := by omega
  have hk2 : k ≤ -1 := by omega
  clear hs hk
  go_enter Try.func41, Try.ntmps41
  go_wp2
  rw [HO.out]
  go_ret
  exact ⟨rfl, rfl⟩

theorem xor3_lt {a b c : Nat} (ha : a < 4294967296) (hb : b < 4294967296) (hc : c < 4294967296) : a ^^^ b ^^^ c < 4294967296 :=
  Nat.xor_lt_two_pow (n := 32) (Nat.xor_lt_two_pow (n := 32) ha hb) hc
theorem xor3 {a b c : Nat} (ha : a < 4294967296) (hb : b < 4294967296) (hc : c < 4294967296) : bits .xor .u32 (bits .xor .u32 (a : Int) (b : Int)) (c : Int) = ((a ^^^ b ^^^ c : Nat) : Int) := by
  rw [u32_xor_nat a b ha hb, u32_xor_nat _ c (Nat.xor_lt_two_pow (n := 32) ha hb) hc]

def turn3 (x p q r : Nat) : Nat := rotr x p ^^^ rotr x q ^^^ rotr x r
def spread3 (x p q r : Nat) : Nat := rotr x p ^^^ rotr x q ^^^ x / 2 ^ r

theorem turn3_lt {x p q r : Nat} (hx : x < 4294967296) (hp : 1 ≤ p ∧ p ≤ 31) (hq : 1 ≤ q ∧ q ≤ 31) (hr : 1 ≤ r ∧ r ≤ 31) : turn3 x p q r < 4294967296 :=
  xor3_lt (rotr_lt hp.1 hp.2 hx).1 (rotr_lt hq.1 hq.2 hx).1 (rotr_lt hr.1 hr.2 hx).1
theorem spread3_lt {x p q r : Nat} (hx : x < 4294967296) (hp : 1 ≤ p ∧ p ≤ 31) (hq : 1 ≤ q ∧ q ≤ 31) : spread3 x p q r < 4294967296 :=
  xor3_lt (rotr_lt hp.1 hp.2 hx).1 (rotr_lt hq.1 hq.2 hx).1 (Nat.lt_of_le_of_lt (Nat.div_le_self _ _) hx)

set_option maxHeartbeats 400000 in
theorem turned_any (x p q r : Nat) (hx : x < 4294967296) (hp1 : 1 ≤ p) (hp2 : p ≤ 31) (hq1 : 1 ≤ q) (hq2 : q ≤ 31) (hr1 : 1 ≤ r) (hr2 : r ≤ 31) (w : World) :
    Calls Try.prog 37 #[.int .u32 x, .int .i64 p, .int .i64 q, .int .i64 r] w fun e w' => e = .returned (.int .u32 (turn3 x p q r : Nat)) ∧ w = w' := by
  have HX := Lib.hid (xor3 (rotr_lt hp1 hp2 hx).1 (rotr_lt hq1 hq2 hx).1 (rotr_lt hr1 hr2 hx).1)
  go_enter Try.func37, Try.ntmps37
  go_wp2_with fail
  refine (rot_any x p _ rfl hp1 hp2 hx _).mono ?_
  rintro e w' ⟨rfl, rfl⟩
  go_wp2_with fail
  refine (rot_any x q _ rfl hq1 hq2 hx _).mono ?_
  rintro e w' ⟨rfl, rfl⟩
  go_wp2_with fail
  refine (rot_any x r _ rfl hr1 hr2 hx _).mono ?_
  rintro e w' ⟨rfl, rfl⟩
  go_wp2
  rw [HX.out]
  go_ret
  exact ⟨rfl, rfl⟩

theorem quiet_left {P : Program} {f : FuncId} {args : Array Value} {w : World} {n : Nat} {v : Value}
    (h : Calls P f args (w.drewN n) fun e w' => e = .returned v ∧ w.drewN n = w') : Calls P f args (w.drewN n) fun e w'' => e = .returned v ∧ ∃ m, w'' = w.drewN m :=
  h.mono fun _ _ ⟨he, hm⟩ => ⟨he, n, hm.symm⟩

set_option maxHeartbeats 1000000 in
theorem spread_any (x p q r : Nat) (hx : x < 4294967296) (hp1 : 1 ≤ p) (hp2 : p ≤ 31) (hq1 : 1 ≤ q) (hq2 : q ≤ 31) (hr1 : 1 ≤ r) (hr2 : r ≤ 31) (w : World) :
    Calls Try.prog 40 #[.int .u32 x, .int .i64 p, .int .i64 q, .int .i64 r] w fun e w' => e = .returned (.int .u32 (spread3 x p q r : Nat)) ∧ ∃ n, w' = w.drewN n := by
  have h3 : x / 2 ^ r < 4294967296 := Nat.lt_of_le_of_lt (Nat.div_le_self _ _) hx
  have HX : Hid (bits .xor .u32 (bits .xor .u32 (rotr x p : Nat) (rotr x q : Nat)) ((x : Int) / 2 ^ r) = ((rotr x p ^^^ rotr x q ^^^ x / 2 ^ r : Nat) : Int)) := by
    have h := xor3 (rotr_lt hp1 hp2 hx).1 (rotr_lt hq1 hq2 hx).1 h3
    rw [Int.natCast_ediv, Int.natCast_pow] at h
    exact h
  have k1 : IntKind.i64.wrap (-(p : Int)) = -(p : Int) := Go.IntWalk.i64_in _ (by omega)
  have k2 : IntKind.i64.wrap (-(q : Int)) = -(q : Int) := Go.IntWalk.i64_in _ (by omega)
  clear h3
  go_enter Try.func40, Try.ntmps40
  go_wp2_with fail
  go_quiet ((go_at_call 41; exact quiet_left (rot_any x _ _ rfl (by omega) (by omega) hx _)))
  go_wp2
  rw [HX.out]
  go_ret
  exact ⟨rfl, _, rfl⟩
end Go.Proofs.Ytlcimiboalpdkaa

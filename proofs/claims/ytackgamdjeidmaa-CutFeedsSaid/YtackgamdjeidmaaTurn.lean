/- The walks over package turn: what each of its functions hands back. -/
import Derived.Test.YtackgamdjeidmaaRows
import Derived.Test.YtackgamdjeidmaaFloat
import Derived.WalkKit
import Derived.WalkSpells
import Derived.WalkLawsBesides
import Derived.Lib.Hide
import Derived.BigQuiet
import Derived.Deep.QuietTactic
import Derived.Deep.RegionWith
namespace Go.Proofs.Ytackgamdjeidmaa
open Go.RowKit

@[go_sem] theorem unary_negFloat (k : FloatKind) (b : Nat) : Op.unary .neg (.float k b) = pure (.float k (Op.negFloat k b)) := rfl

set_option maxHeartbeats 400000 in
theorem turned_any (a b : Nat) (w : World) :
    Calls Try.prog 30 #[.complex .f64 a b] w fun e w' => e = .returned (.complex .f64 (Op.negFloat .f64 b) a) ∧ w = w' := by
  go_enter Try.func30, Try.ntmps30
  go_wp2
  go_ret
  exact ⟨rfl, rfl⟩

theorem run_addF (a : Int) (x : Nat) (ha : a.natAbs < 2 ^ 53) (hx : Fl x a) (t : TypeId) (w : World) : (binOp .add t (.float .f64 x) (.float .f64 0)).run Try.prog w = .ok (.float .f64 (W a)) w := by
  have h := add_canon hx ha (b := 0) (by decide) (by simpa using ha)
  rw [W_zero, Int.add_zero] at h
  exact run_float_arith w .add t .f64 x 0 _ h

set_option maxHeartbeats 400000 in
theorem plain_any (a b : Int) (x y : Nat) (w : World) (ha : a.natAbs < 2 ^ 53) (hb : b.natAbs < 2 ^ 53) (hx : Fl x a) (hy : Fl y b) :
    Calls Try.prog 31 #[.complex .f64 x y] w fun e w' => e = .returned (.complex .f64 (W a) (W b)) ∧ w = w' := by
  have h1 := run_addF a x ha hx
  have h2 := run_addF b y hb hy
  clear hx hy
  go_enter Try.func31, Try.ntmps31
  go_wp2
  go_ret
  exact ⟨rfl, rfl⟩

theorem quiet_left {P : Program} {f : FuncId} {args : Array Value} {w : World} {n : Nat} {v : Value}
    (h : Calls P f args (w.drewN n) fun e w' => e = .returned v ∧ w.drewN n = w') : Calls P f args (w.drewN n) fun e w'' => e = .returned v ∧ ∃ m, w'' = w.drewN m :=
  h.mono fun _ _ ⟨he, hm⟩ => ⟨he, n, hm.symm⟩
theorem quiet_left0 {P : Program} {f : FuncId} {args : Array Value} {w : World} {v : Value}
    (h : Calls P f args w fun e w' => e = .returned v ∧ w = w') : Calls P f args w fun e w'' => e = .returned v ∧ ∃ m, w'' = w.drewN m :=
  h.mono fun _ _ ⟨he, hm⟩ => ⟨he, 0, hm.symm⟩

/-- A quarter turn. -/
def rot (z : Int × Int) : Int × Int := (-z.2, z.1)
/-- The turned sum. -/
def sumL (l : List UInt8) : Int × Int := l.foldl (fun z c => (-z.2 + (c.toNat : Int), z.1)) (0, 0)

theorem sumL_snoc (l : List UInt8) (c : UInt8) : sumL (l ++ [c]) = (-(sumL l).2 + (c.toNat : Int), (sumL l).1) := by
  simp [sumL, List.foldl_append]

theorem sumL_le (l : List UInt8) : (sumL l).1.natAbs ≤ 255 * l.length ∧ (sumL l).2.natAbs ≤ 255 * l.length := by
  have key : ∀ n, ∀ l : List UInt8, l.length = n → (sumL l).1.natAbs ≤ 255 * l.length ∧ (sumL l).2.natAbs ≤ 255 * l.length := by
    intro n
    induction n with
    | zero => intro l hl; rw [List.length_eq_zero_iff.1 hl]; simp [sumL]
    | succ n ih =>
      intro l hl
      have hne : l ≠ [] := by intro h; simp [h] at hl
      have e := (List.dropLast_concat_getLast hne).symm
      have hd : l.dropLast.length = n := by simp [hl]
      have := ih _ hd
      rw [e, sumL_snoc]
      have hc := (l.getLast hne).toNat_lt
      simp only [List.length_append, List.length_singleton, hd] at this ⊢
      omega
  exact key _ l rfl

theorem take_snoc (s : ByteArray) (k : Nat) (h : k < s.size) : s.data.toList.take (k + 1) = s.data.toList.take k ++ [s[k]] := by
  rw [List.take_succ_eq_append_getElem (by simpa using h)]; rfl

theorem turn_step (p q : Int) (c : UInt8) (hp : p.natAbs ≤ 2 ^ 50) (hq : q.natAbs ≤ 2 ^ 50) (t : TypeId) (w : World) :
    (binOp .add t (.complex .f64 (Op.negFloat .f64 (W q)) (W p)) (.complex .f64 (W (c.toNat : Int)) 0)).run Try.prog w = .ok (.complex .f64 (W (-q + (c.toNat : Int))) (W p)) w := by
  have hc := c.toNat_lt
  have h1 := add_canon (neg_fl (Or.inl rfl) (by omega : q.natAbs < 2 ^ 53)) (by omega) (b := (c.toNat : Int)) (by omega) (by omega)
  have h2 := add_canon (Or.inl rfl : Fl (W p) p) (by omega) (b := 0) (by decide) (by omega)
  rw [W_zero, Int.add_zero] at h2
  refine run_complex_sum w .add (Or.inl rfl) t .f64 _ _ _ _ _ _ ?_
  unfold cSumBits floatBits
  show ((Ieee.double.add _ _).bind fun re => (Ieee.double.add _ _).bind fun im => some (re, im)) = _
  rw [h1, h2]; rfl

set_option maxHeartbeats 400000 in
theorem sum_any (s : ByteArray) (w : World) (hs : s.size ≤ 6000) :
    Calls Try.prog 14 #[.string s] w fun e w' => e = .returned (.complex .f64 (W (sumL s.data.toList).1) (W (sumL s.data.toList).2)) ∧ ∃ n, w' = w.drewN n := by
  go_enter Try.func14, Try.ntmps14
  go_wp2
  go_loopw [3, 7] (fun z i wr => ∃ k : Nat, k ≤ s.size ∧ i = .int .i64 k ∧ z = .complex .f64 (W (sumL (s.data.toList.take k)).1) (W (sumL (s.data.toList.take k)).2) ∧ ∃ n, wr = w.drewN n) (fun _ i _ => s.size - (intOf i).toNat)
  case atStart => exact ⟨0, Nat.zero_le _, rfl, rfl, 0, rfl⟩
  case round =>
    obtain ⟨k, hk, rfl, rfl, hw⟩ := hrel
    have HW := Lib.hid hw
    clear hw
    have hl : (s.data.toList.take k).length ≤ k := List.length_take_le _ _
    have hb := sumL_le (s.data.toList.take k)
    by_cases hlt : k < s.size
    · have hst := turn_step (sumL (s.data.toList.take k)).1 (sumL (s.data.toList.take k)).2 s[k] (by omega) (by omega)
      have HS := Lib.hid (sumL_snoc (s.data.toList.take k) s[k])
      rw [← take_snoc s k hlt] at HS
      clear hl hb
      go_wp2
      go_quiet ((go_at_call 30; exact quiet_left (turned_any _ _ _)))
      go_wp2
      go_roundw
      case rel =>
        obtain ⟨n, hn⟩ := HW.out
        exact ⟨k + 1, by omega, by go_num, by rw [HS.out], n + nq, by rw [hn, World.drewN_drewN]⟩
      case measure => simp [intOf]; omega
    · have hq : s.data.toList.take k = s.data.toList := List.take_of_length_le (by simp; omega)
      have HQ := Lib.hid hq
      clear hq
      go_wp2_with (go_at_call 31; refine (plain_any _ _ _ _ _ (by omega) (by omega) (Or.inl rfl) (Or.inl rfl)).mono ?_; rintro e w' ⟨rfl, rfl⟩)
      go_ret
      exact ⟨by rw [HQ.out]; rfl, HW.out⟩

theorem and3 (n : Int) : bits .and .i64 n 3 = n % 4 := by
  show IntKind.i64.wrap ((BitVec.ofInt 64 n &&& BitVec.ofInt 64 3).toNat : Int) = _
  rw [BitVec.toNat_and, BitVec.toNat_ofInt, show (BitVec.ofInt 64 3).toNat = 2 ^ 2 - 1 by decide, Nat.and_two_pow_sub_one_eq_mod, IntKind.wrap_i64]
  omega

/-- n quarter turns. -/
def rotN : Nat → Int × Int → Int × Int
  | 0, z => z
  | n + 1, z => rot (rotN n z)

theorem rotN_le (n : Nat) (z : Int × Int) (B : Nat) (h1 : z.1.natAbs ≤ B) (h2 : z.2.natAbs ≤ B) : (rotN n z).1.natAbs ≤ B ∧ (rotN n z).2.natAbs ≤ B := by
  induction n with
  | zero => exact ⟨h1, h2⟩
  | succ n ih =>
    show (-(rotN n z).2).natAbs ≤ B ∧ (rotN n z).1.natAbs ≤ B
    rw [Int.natAbs_neg]; exact ⟨ih.2, ih.1⟩

/-- A value with these parts, zeros of either sign. -/
def IsZ (z : Int × Int) (v : Value) : Prop := ∃ x y, v = .complex .f64 x y ∧ Fl x z.1 ∧ Fl y z.2
def RetZ (z : Int × Int) (w : World) (e : Ending) (w' : World) : Prop := ∃ v, e = .returned v ∧ IsZ z v ∧ w = w'

theorem isZ_step {z : Int × Int} {x y : Nat} (h1 : Fl x z.1) (h2 : Fl y z.2) (hb : z.2.natAbs < 2 ^ 53) : IsZ (rot z) (.complex .f64 (Op.negFloat .f64 y) x) :=
  ⟨_, _, rfl, neg_fl h2 hb, h1⟩

set_option maxHeartbeats 400000 in
theorem many_any (n a b : Int) (x y : Nat) (w : World) (hx : Fl x a) (hy : Fl y b) (hab : a.natAbs ≤ 2 ^ 50) (hbb : b.natAbs ≤ 2 ^ 50) :
    Calls Try.prog 32 #[.complex .f64 x y, .int .i64 n] w (RetZ (rotN (n % 4).toNat (a, b)) w) := by
  have ha := and3 n
  obtain ⟨m, hm⟩ : ∃ m : Nat, n % 4 = m := ⟨(n % 4).toNat, by omega⟩
  rw [hm] at ha ⊢
  rw [Int.toNat_natCast]
  have hm4 : m < 4 := by omega
  clear hm
  have H0 : IsZ (rotN 0 (a, b)) (.complex .f64 x y) := ⟨x, y, rfl, hx, hy⟩
  clear hx hy
  go_enter Try.func32, Try.ntmps32
  go_wp2
  go_loop [0, 7] (fun z i => ∃ k : Nat, k ≤ m ∧ i = .int .i64 k ∧ IsZ (rotN k (a, b)) z) (fun _ i => m - (intOf i).toNat)
  case atStart => exact ⟨0, Nat.zero_le _, rfl, H0⟩
  case round =>
    obtain ⟨k, hk, rfl, x1, y1, rfl, h1, h2⟩ := hrel
    by_cases hlt : k < m
    · go_wp2_with (go_at_call 30; refine (turned_any _ _ _).mono ?_; rintro e w' ⟨rfl, rfl⟩)
      go_round
      case rel => exact ⟨k + 1, by omega, by go_num, isZ_step h1 h2 (by have := (rotN_le k (a, b) (2 ^ 50) hab hbb).2; omega)⟩
      case measure => simp [intOf]; omega
    · obtain rfl : k = m := by omega
      go_wp2
      go_ret
      exact ⟨_, rfl, ⟨x1, y1, rfl, h1, h2⟩, rfl⟩

set_option maxHeartbeats 400000 in
theorem power_any (n : Int) (w : World) :
    Calls Try.prog 16 #[.int .i64 n] w fun e w' => e = .returned (.complex .f64 (W (rotN (n % 4).toNat (1, 0)).1) (W (rotN (n % 4).toNat (1, 0)).2)) ∧ w = w' := by
  have ha := and3 n
  obtain ⟨m, hm⟩ : ∃ m : Nat, n % 4 = m := ⟨(n % 4).toNat, by omega⟩
  rw [hm] at ha ⊢
  rw [Int.toNat_natCast]
  have hm4 : m < 4 := by omega
  clear hm
  have H0 : IsZ (rotN 0 (1, 0)) (.complex .f64 4607182418800017408 0) := ⟨_, _, rfl, Or.inl (by decide), Or.inl (by decide)⟩
  go_enter Try.func16, Try.ntmps16
  go_wp2
  go_loop [3, 6] (fun z i => ∃ k : Nat, k ≤ m ∧ i = .int .i64 k ∧ IsZ (rotN k (1, 0)) z) (fun _ i => m - (intOf i).toNat)
  case atStart => exact ⟨0, Nat.zero_le _, rfl, H0⟩
  case round =>
    obtain ⟨k, hk, rfl, x1, y1, rfl, h1, h2⟩ := hrel
    have hr := rotN_le k (1, 0) 1 (by decide) (by decide)
    by_cases hlt : k < m
    · go_wp2_with (go_at_call 30; refine (turned_any _ _ _).mono ?_; rintro e w' ⟨rfl, rfl⟩)
      go_round
      case rel => exact ⟨k + 1, by omega, by go_num, isZ_step h1 h2 (by omega)⟩
      case measure => simp [intOf]; omega
    · obtain rfl : k = m := by omega
      go_wp2_with (go_at_call 31; refine (plain_any _ _ _ _ _ (by omega) (by omega) h1 h2).mono ?_; rintro e w' ⟨rfl, rfl⟩)
      go_ret
      exact ⟨rfl, rfl⟩
end Go.Proofs.Ytackgamdjeidmaa

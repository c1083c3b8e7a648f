/- The walks over sums.Check and the reference's Check. -/
import Derived.Test.YtlcimiboalpdkaaRows
import Derived.Test.YtlcimiboalpdkaaCrc
import Derived.WalkKit
import Derived.WalkSpells
import Derived.WalkLawsBesides
import Derived.Lib.Hide
import Derived.BigQuiet
import Derived.Deep.QuietTactic
import Derived.IntWalk
namespace Go.Proofs.Ytlcimiboalpdkaa
open Go.RowKit

theorem ret_int {k : IntKind} {a b : Int} (h : a = b) : Ending.returned (.int k a) = .returned (.int k b) := by rw [h]
theorem take_snoc (s : ByteArray) (k : Nat) (h : k < s.size) : s.data.toList.take (k + 1) = s.data.toList.take k ++ [s[k]] := by
  rw [List.take_succ_eq_append_getElem (by simpa using h)]; rfl

theorem chk_byte (c : Nat) (b : UInt8) (hc : c < 4294967296) : bits .xor .u32 (c : Int) ((b.toNat : Int) % 4294967296) = ((c ^^^ b.toNat : Nat) : Int) := by
  have hb := b.toNat_lt
  rw [show (b.toNat : Int) % 4294967296 = (b.toNat : Int) by omega]
  exact u32_xor_nat c b.toNat hc (by omega)
theorem chk_bit (c : Nat) (hc : c < 4294967296) : bits .xor .u32 ((c : Int) / 2) (bits .and .u32 (c : Int) 1 * 3988292384 % 4294967296) = ((crcBit c : Nat) : Int) := by
  have h1 : bits .and .u32 (c : Int) 1 = ((c % 2 : Nat) : Int) := by
    have := u32_and_nat c 1 hc (by decide)
    rw [Nat.and_one_is_mod] at this
    exact this
  rw [h1]
  unfold crcBit poly
  have e2 : (c : Int) / 2 = ((c / 2 : Nat) : Int) := by omega
  rw [e2]
  rcases Nat.mod_two_eq_zero_or_one c with h | h <;> rw [h]
  · have e : ((0 : Nat) : Int) * 3988292384 % 4294967296 = ((0 * 3988292384 : Nat) : Int) := by decide
    rw [e]
    exact u32_xor_nat (c / 2) (0 * 3988292384) (by omega) (by decide)
  · have e : ((1 : Nat) : Int) * 3988292384 % 4294967296 = ((1 * 3988292384 : Nat) : Int) := by decide
    rw [e]
    exact u32_xor_nat (c / 2) (1 * 3988292384) (by omega) (by decide)
theorem chk_not (c : Nat) (hc : c < 4294967296) : bits .xor .u32 IntKind.u32.max (c : Int) = ((4294967295 - c : Nat) : Int) := by
  have h : 4294967295 ^^^ c = 4294967295 - c := by
    have h1 := congrArg BitVec.toNat (BitVec.allOnes_xor (x := BitVec.ofNat 32 c))
    rw [BitVec.toNat_xor, BitVec.toNat_not, BitVec.toNat_allOnes, BitVec.toNat_ofNat, Nat.mod_eq_of_lt (show c < 2 ^ 32 from hc)] at h1
    exact h1
  rw [← h]
  exact u32_xor_nat 4294967295 c (by decide) hc

set_option maxHeartbeats 400000 in
theorem check_any (s : ByteArray) (w : World) (hs : s.size ≤ 6000) :
    Calls Try.prog 13 #[.string s] w fun e w' => e = .returned (.int .u32 (crcL s.data.toList : Nat)) ∧ w = w' := by
  go_enter Try.func13, Try.ntmps13
  go_wp2
  go_loop [3, 4, 7, 16] (fun x _ i _ => ∃ k c : Nat, k ≤ s.size ∧ i = .int .i64 k ∧ x = .int .u32 c ∧ c = crcFrom 4294967295 (s.data.toList.take k)) (fun _ _ i _ => s.size - (intOf i).toNat)
  case atStart => exact ⟨0, 4294967295, by omega, rfl, rfl, rfl⟩
  case round =>
    obtain ⟨k, c, hk, rfl, rfl, hc⟩ := hrel
    have hlt32 : c < 4294967296 := by rw [hc]; exact crcFrom_lt _ (by decide)
    have HC := Lib.hid hc
    clear hc
    by_cases hlt : k < s.size
    · have HB := Lib.hid (chk_byte c s[k] hlt32)
      have HS : Hid (crcFrom 4294967295 (s.data.toList.take (k + 1)) = crcBits 8 (c ^^^ s[k].toNat)) := by
        rw [take_snoc s k hlt, crcFrom_snoc, ← HC.out]; rfl
      have hx := xor_byte_lt s[k] hlt32
      go_wp2
      rw [HB.out]
      generalize c ^^^ s[k].toNat = x at *
      go_loop [3, 16] (fun y i => ∃ j d : Nat, j ≤ 8 ∧ i = .int .i64 j ∧ y = .int .u32 d ∧ d = crcBits j x) (fun _ i => 8 - (intOf i).toNat)
      case atStart => exact ⟨0, x, by omega, rfl, rfl, rfl⟩
      case round =>
        obtain ⟨j, d, hj, rfl, rfl, hd⟩ := hrel
        have hd32 : d < 4294967296 := by rw [hd]; exact crcBits_lt j hx
        have HD := Lib.hid hd
        clear hd
        by_cases hlt8 : j < 8
        · have HN := Lib.hid (chk_bit d hd32)
          go_wp2
          go_round
          case rel => exact ⟨j + 1, crcBit d, by omega, by go_num, by rw [HN.out], by rw [HD.out]; rfl⟩
          case measure => simp [intOf]; omega
        · obtain rfl : j = 8 := by omega
          go_wp2
          go_round
          case rel => exact ⟨k + 1, d, by omega, by go_num, rfl, by rw [HS.out, HD.out]⟩
          case measure => simp [intOf]; omega
    · have HE : Hid (c = crcFrom 4294967295 s.data.toList) := HC.out.trans (by rw [List.take_of_length_le (by simp; omega)])
      have HN := Lib.hid (chk_not c hlt32)
      go_wp2
      rw [HN.out]
      go_ret
      exact ⟨by unfold crcL; rw [← HE.out]; rfl, rfl⟩

theorem rchk_byte (c : Nat) (b : UInt8) (hc : c < 4294967296) : bits .xor .u64 (c : Int) (IntKind.u64.wrap (b.toNat : Int)) = ((c ^^^ b.toNat : Nat) : Int) := by
  have hb := b.toNat_lt
  rw [Go.IntWalk.u64_in _ (by omega)]
  exact u64_xor_nat c b.toNat (by omega) (by omega)
theorem rchk_odd (c : Nat) (hc : c < 4294967296) (h : c % 2 = 1) : bits .xor .u64 ((c : Int) / 2) 3988292384 = ((crcBit c : Nat) : Int) := by
  have e2 : (c : Int) / 2 = ((c / 2 : Nat) : Int) := by omega
  rw [e2]
  unfold crcBit poly
  rw [h, Nat.one_mul]
  exact u64_xor_nat (c / 2) 3988292384 (by omega) (by decide)
theorem rchk_even (c : Nat) (h : c % 2 = 0) : (c : Int) / 2 = ((crcBit c : Nat) : Int) := by
  unfold crcBit
  rw [h, Nat.zero_mul, Nat.xor_zero]; omega

set_option maxHeartbeats 1000000 in
theorem refCheck_any (s : ByteArray) (w : World) (hs : s.size ≤ 6000) :
    Calls Try.prog 14 #[.string s] w fun e w' => e = .returned (.int .u32 (crcL s.data.toList : Nat)) ∧ w = w' := by
  go_enter Try.func14, Try.ntmps14
  go_wp2
  go_loop [3, 4, 5, 6] (fun x i _ _ => ∃ k c : Nat, k ≤ s.size ∧ i = .int .i64 k ∧ x = .int .u64 c ∧ c = crcFrom 4294967295 (s.data.toList.take k)) (fun _ i _ _ => s.size - (intOf i).toNat)
  case atStart => exact ⟨0, 4294967295, by omega, rfl, rfl, rfl⟩
  case round =>
    obtain ⟨k, c, hk, rfl, rfl, hc⟩ := hrel
    have hlt32 : c < 4294967296 := by rw [hc]; exact crcFrom_lt _ (by decide)
    have HC := Lib.hid hc
    clear hc
    by_cases hlt : k < s.size
    · have HB := Lib.hid (rchk_byte c s[k] hlt32)
      have HS : Hid (crcFrom 4294967295 (s.data.toList.take (k + 1)) = crcBits 8 (c ^^^ s[k].toNat)) := by
        rw [take_snoc s k hlt, crcFrom_snoc, ← HC.out]; rfl
      have hx := xor_byte_lt s[k] hlt32
      go_wp2
      rw [HB.out]
      generalize c ^^^ s[k].toNat = x at *
      go_loop [3, 5, 6] (fun y i _ => ∃ j d : Nat, j ≤ 8 ∧ i = .int .i64 j ∧ y = .int .u64 d ∧ d = crcBits j x) (fun _ i _ => 8 - (intOf i).toNat)
      case atStart => exact ⟨0, x, by omega, rfl, rfl, rfl⟩
      case round =>
        obtain ⟨j, d, hj, rfl, rfl, hd⟩ := hrel
        have hd32 : d < 4294967296 := by rw [hd]; exact crcBits_lt j hx
        have HD := Lib.hid hd
        clear hd
        by_cases hlt8 : j < 8
        · rcases Nat.mod_two_eq_zero_or_one d with h2 | h2
          · have HN := Lib.hid (rchk_even d h2)
            have t2 : ((d : Int) % 2 == 1) = false := by rw [beq_eq_false_iff_ne]; omega
            clear h2
            go_wp2
            go_round
            case rel => exact ⟨j + 1, crcBit d, by omega, by go_num, by rw [HN.out], by rw [HD.out]; rfl⟩
            case measure => simp [intOf]; omega
          · have HN := Lib.hid (rchk_odd d hd32 h2)
            have t2 : ((d : Int) % 2 == 1) = true := by rw [beq_iff_eq]; omega
            clear h2
            go_wp2
            go_round
            case rel => exact ⟨j + 1, crcBit d, by omega, by go_num, by rw [HN.out], by rw [HD.out]; rfl⟩
            case measure => simp [intOf]; omega
        · obtain rfl : j = 8 := by omega
          go_wp2
          go_round
          case rel => exact ⟨k + 1, d, by omega, by go_num, rfl, by rw [HS.out, HD.out]⟩
          case measure => simp [intOf]; omega
    · have HE : Hid (c = crcFrom 4294967295 s.data.toList) := HC.out.trans (by rw [List.take_of_length_le (by simp; omega)])
      go_wp2
      go_ret
      refine ⟨?_, rfl⟩
      unfold crcL
      rw [← HE.out]
      exact ret_int (by omega)
end Go.Proofs.Ytlcimiboalpdkaa

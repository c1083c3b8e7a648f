/- The walk over cooperagelaw01.adds: it always says yes. -/
import Derived.Test.YtlcimiboalpdkaaHex
import Derived.SliceStrings
namespace Go.Proofs.Ytlcimiboalpdkaa
open Go.RowKit
theorem abc_hex : hexL (printed ⟨#[97, 98, 99]⟩).data.toList = [98, 97, 55, 56, 49, 54, 98, 102, 56, 102, 48, 49, 99, 102, 101, 97, 52, 49, 52, 49, 52, 48, 100, 101, 53, 100, 97, 101, 50, 50, 50, 51, 98, 48, 48, 51, 54, 49, 97, 51, 57, 54, 49, 55, 55, 97, 57, 99, 98, 52, 49, 48, 102, 102, 54, 49, 102, 50, 48, 48, 49, 53, 97, 100] := by decide +kernel
theorem abc_head : ((ByteArray.mk #[98, 97, 55, 56, 49, 54, 98, 102, 56, 102, 48, 49, 99, 102, 101, 97, 52, 49, 52, 49, 52, 48, 100, 101, 53, 100, 97, 101, 50, 50, 50, 51, 98, 48, 48, 51, 54, 49, 97, 51, 57, 54, 49, 55, 55, 97, 57, 99, 98, 52, 49, 48, 102, 102, 54, 49, 102, 50, 48, 48, 49, 53, 97, 100]).extract 0 16).toList = [98, 97, 55, 56, 49, 54, 98, 102, 56, 102, 48, 49, 99, 102, 101, 97] := by decide +kernel
theorem abc_tail : ((ByteArray.mk #[98, 97, 55, 56, 49, 54, 98, 102, 56, 102, 48, 49, 99, 102, 101, 97, 52, 49, 52, 49, 52, 48, 100, 101, 53, 100, 97, 101, 50, 50, 50, 51, 98, 48, 48, 51, 54, 49, 97, 51, 57, 54, 49, 55, 55, 97, 57, 99, 98, 52, 49, 48, 102, 102, 54, 49, 102, 50, 48, 48, 49, 53, 97, 100]).extract 56 64).toList = [102, 50, 48, 48, 49, 53, 97, 100] := by decide +kernel
theorem abc_size : (printed ⟨#[97, 98, 99]⟩).size ≤ 6000 := by decide +kernel
theorem digits_crc : crcL [49, 50, 51, 52, 53, 54, 55, 56, 57] = 3421780262 := by decide +kernel
theorem check_digits (w : World) : Calls Try.prog 13 #[.string ⟨#[49, 50, 51, 52, 53, 54, 55, 56, 57]⟩] w fun e w' => e = .returned (.int .u32 3421780262) ∧ ∃ m, w' = w.drewN m := by
  refine (check_any ⟨#[49, 50, 51, 52, 53, 54, 55, 56, 57]⟩ w (by decide)).mono ?_
  rintro e w' ⟨rfl, rfl⟩
  exact ⟨by rw [digits_crc]; rfl, 0, rfl⟩
theorem adds_any (w : World) : Calls Try.prog 8 #[] w fun e w' => e = .returned (.bool true) ∧ w.grownBy w' none := by
  go_enter Try.func8, Try.ntmps8
  go_wp2_with fail
  go_at_call 9
  refine (print_any ⟨#[97, 98, 99]⟩ _ (by decide)).mono ?_
  rintro e w1 ⟨rfl, hg1⟩
  go_wp2_with fail
  go_at_call 15
  refine (hex_any (printed ⟨#[97, 98, 99]⟩) _ abc_size).mono ?_
  rintro e w2 ⟨rfl, hg2⟩
  rw [abc_hex]
  go_wp2_with fail
  go_at_call 13
  refine (check_digits _).mono ?_
  rintro e w3 ⟨rfl, m, rfl⟩
  go_wp2_with fail
  go_ret
  exact ⟨rfl, (hg1.trans hg2).trans ⟨rfl, rfl, rfl, Nat.le_refl _, fun _ _ _ => rfl⟩⟩
  · rename_i h; exact absurd abc_tail h
  · rename_i h; exact absurd abc_head h
end Go.Proofs.Ytlcimiboalpdkaa

/- The walk over the reference's Hex. -/
import Derived.Test.YtlcimiboalpdkaaDig
namespace Go.Proofs.Ytlcimiboalpdkaa
open Go.RowKit

theorem dig_slice : ∀ x : Nat, x < 16 → (ByteArray.mk #[48, 49, 50, 51, 52, 53, 54, 55, 56, 57, 97, 98, 99, 100, 101, 102]).extract x (x + 1) = ⟨#[UInt8.ofNat (digB x)]⟩ := by decide +kernel
theorem tod (x : Nat) (hx : x < 256) : ∃ a b : Nat, a < 16 ∧ b < 16 ∧ IntKind.u8.wrap ((x : Int) / 16) = (a : Int) ∧ (x : Int).tmod 16 = (b : Int) ∧ (x : Int) % 16 = (b : Int) ∧ x / 16 = a ∧ x % 16 = b := by
  refine ⟨x / 16, x % 16, by omega, by omega, ?_, ?_, by omega, rfl, rfl⟩
  · rw [Go.IntWalk.u8_in _ (by omega)]; omega
  · rw [Int.tmod_eq_emod_of_nonneg (by omega)]; omega

set_option maxHeartbeats 400000 in
theorem refHex_any (s : ByteArray) (w : World) (hs : s.size ≤ 6000) :
    Calls Try.prog 17 #[.string s] w fun e w' => e = .returned (.string ⟨(hexL s.data.toList).toArray⟩) ∧ ∃ m, w' = w.drewN m := by
  go_enter Try.func17, Try.ntmps17
  go_wp2_with fail
  go_loopw [3, 4] (fun v i wr => ∃ k : Nat, k ≤ s.size ∧ i = .int .i64 k ∧ v = .string ⟨(hexL (s.data.toList.take k)).toArray⟩ ∧ ∃ m, wr = w.drewN m) (fun _ i _ => s.size - (intOf i).toNat)
  case atStart => exact ⟨0, by omega, rfl, rfl, 0, rfl⟩
  case round =>
    obtain ⟨k, hk, rfl, rfl, m, rfl⟩ := hrel
    by_cases hlt : k < s.size
    · have hb := s[k].toNat_lt
      obtain ⟨L, hL⟩ : ∃ L : ByteArray, L = ⟨(hexL (s.data.toList.take k)).toArray⟩ := ⟨_, rfl⟩
      rw [← hL]
      have HL := Lib.hid hL
      clear hL
      obtain ⟨a, b, ha, hb16, e1, e2, e3, e4, e5⟩ := tod s[k].toNat hb
      have HA := Lib.hid e4
      have HB := Lib.hid e5
      have DA := dig_slice a ha
      have DB := dig_slice b hb16
      obtain ⟨x, hx⟩ : ∃ x, x = UInt8.ofNat (digB a) := ⟨_, rfl⟩
      obtain ⟨y, hy⟩ : ∃ y, y = UInt8.ofNat (digB b) := ⟨_, rfl⟩
      rw [← hx] at DA
      rw [← hy] at DB
      have HX := Lib.hid hx
      have HY := Lib.hid hy
      clear hx hy
      have hLs : L.size = 2 * k := by
        have e : L.size = (hexL (s.data.toList.take k)).length := by rw [HL.out]; rfl
        rw [e, hexL_length, List.length_take]
        simp
        omega
      have S1 : (L ++ ByteArray.mk #[x]).size = 2 * k + 1 := by rw [ByteArray.size_append, hLs]; rfl
      have S2 : (ByteArray.mk #[x]).size = 1 := rfl
      have S3 : (ByteArray.mk #[y]).size = 1 := rfl
      clear e4 e5
      go_wp2_with fail
      have w1 : IntKind.i64.wrap ((a : Int) + 1) = (a : Int) + 1 := Go.IntWalk.i64_in _ (by omega)
      have w2 : IntKind.i64.wrap ((b : Int) + 1) = (b : Int) + 1 := Go.IntWalk.i64_in _ (by omega)
      have t1 : ((a : Int) + 1).toNat = a + 1 := by omega
      have t2 : ((b : Int) + 1).toNat = b + 1 := by omega
      have l1 : (a : Int) + 1 ≤ 16 := by omega
      have l2 : (b : Int) + 1 ≤ 16 := by omega
      have z1 : (0 : Int) ≤ (a : Int) := by omega
      have z2 : (0 : Int) ≤ (b : Int) := by omega
      have m1 : (a : Int) ≤ (a : Int) + 1 := by omega
      have m2 : (b : Int) ≤ (b : Int) + 1 := by omega
      go_quiet (fail)
      go_wp2_with fail
      refine ⟨⟨k + 1, by omega, rfl, ?_, _, rfl⟩, by simp only [intOf]; omega⟩
      rw [take_snoc s k hlt, hexL_snoc, HL.out, HX.out, HY.out, ← HA.out, ← HB.out]
      congr 1
      apply ByteArray.ext
      simp [hexB]
    · have hk' : k = s.size := by omega
      subst hk'
      go_wp2_with fail
      go_ret
      rw [List.take_of_length_le (by simp)]
      exact ⟨rfl, _, rfl⟩
end Go.Proofs.Ytlcimiboalpdkaa

/- Small facts for TurnFour: powers and products as words; four equal bytes made a string. -/
import Derived.Test.YtackgamdjeidmaaLawB
import Derived.Test.YtackgamdjeidmaaPost
namespace Go.Proofs.Ytackgamdjeidmaa
open Go.RowKit

theorem power_tab (n m : Int) (h : n % 4 = m) (x y : Nat) (hx : W (rotN m.toNat (1, 0)).1 = x) (hy : W (rotN m.toNat (1, 0)).2 = y) (w : World) :
    Calls Try.prog 16 #[.int .i64 n] w fun e w' => e = .returned (.complex .f64 x y) ∧ w = w' := by
  have h1 := power_any n w
  rwa [h, hx, hy] at h1
theorem mul_tab (a b c d re im : Nat) (h : cMulBits a b c d = some (re, im)) (t : TypeId) (w : World) : (binOp .mul t (.complex .f64 a b) (.complex .f64 c d)).run Try.prog w = .ok (.complex .f64 re im) w :=
  run_complex_mul w t a b c d re im h

theorem sum_four (c : UInt8) (w : World) : Calls Try.prog 14 #[.string ⟨#[c, c, c, c]⟩] w fun e w' => e = .returned (.complex .f64 0 0) ∧ ∃ n, w' = w.drewN n := by
  have h := sum_any ⟨#[c, c, c, c]⟩ w (by show 4 ≤ 6000; omega)
  have e : sumL (ByteArray.mk #[c, c, c, c]).data.toList = (0, 0) := by
    simp [sumL]; omega
  rw [e, W_zero] at h
  exact h

theorem conv_four (c : UInt8) (w : World) (n : Nat) :
    (convert 35 9 (.slice (some ⟨w.heap.size, 0, none⟩) 4 4)).run Try.prog ((w.drewN n).alloc (.cells #[.int .u8 c.toNat, .int .u8 c.toNat, .int .u8 c.toNat, .int .u8 c.toNat] 5)) =
      .ok (.string ⟨#[c, c, c, c]⟩) ((w.drewN n).alloc (.cells #[.int .u8 c.toNat, .int .u8 c.toNat, .int .u8 c.toNat, .int .u8 c.toNat] 5)) := by
  refine run_convert_bytes_back _ 35 9 5 ⟨w.heap.size, 0, none⟩ 4 [c, c, c, c] Try.underlying35 Try.underlying5 Try.underlying9 ?_
  intro j hj
  have h : ((w.drewN n).alloc (.cells #[.int .u8 c.toNat, .int .u8 c.toNat, .int .u8 c.toNat, .int .u8 c.toNat] 5)).cell? ⟨w.heap.size, j, none⟩ = _ := World.cell?_alloc_mark (w.drewN n) _ 5 (0, 0) j
  have hadd : (Addr.mk w.heap.size 0 none).add j = ⟨w.heap.size, j, none⟩ := by
    unfold Addr.add
    by_cases h0 : j = 0
    · subst h0; rfl
    · simp [h0]
  rw [hadd, h]
  have : j = 0 ∨ j = 1 ∨ j = 2 ∨ j = 3 := by simp at hj; omega
  rcases this with rfl | rfl | rfl | rfl <;> rfl
end Go.Proofs.Ytackgamdjeidmaa

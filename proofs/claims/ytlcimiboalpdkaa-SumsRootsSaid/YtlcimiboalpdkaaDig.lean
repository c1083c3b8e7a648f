/- The walks over sums.number, the reference's value and the reference's Hex. -/
import Derived.Test.YtlcimiboalpdkaaHex
namespace Go.Proofs.Ytlcimiboalpdkaa
open Go.RowKit

/-- Is it a digit, and which. -/
def isV (n : Nat) : Bool := decide (48 ≤ n ∧ n ≤ 57 ∨ 97 ≤ n ∧ n ≤ 102)
def numV (n : Nat) : Nat := if 48 ≤ n ∧ n ≤ 57 then n - 48 else if 97 ≤ n ∧ n ≤ 102 then n - 87 else 0
theorem numV_lt (n : Nat) : numV n < 16 := by unfold numV; split <;> (try split) <;> omega

theorem number_any (n : Nat) (hn : n < 256) (w : World) : Calls Try.prog 29 #[.int .u8 n] w fun e w' => e = .returned (.tuple #[.int .u8 (numV n : Nat), .bool (isV n)]) ∧ w = w' := by
  by_cases h1 : 48 ≤ n ∧ n ≤ 57
  · have e1 : numV n = n - 48 := if_pos h1
    have e2 : isV n = true := decide_eq_true (Or.inl h1)
    obtain ⟨h1, h2⟩ := h1
    rw [e1, e2]
    have e3 : ((n - 48 : Nat) : Int) = (n : Int) - 48 := by omega
    rw [e3]
    go_enter Try.func29, Try.ntmps29
    go_wp2_with fail
    go_ret2
    exact ⟨rfl, rfl⟩
  · by_cases h2 : 97 ≤ n ∧ n ≤ 102
    · have e1 : numV n = n - 87 := by unfold numV; rw [if_neg h1, if_pos h2]
      have e2 : isV n = true := decide_eq_true (Or.inr h2)
      obtain ⟨h2, h3⟩ := h2
      rw [e1, e2]
      have e3 : ((n - 87 : Nat) : Int) = (n : Int) - 97 + 10 := by omega
      rw [e3]
      go_enter Try.func29, Try.ntmps29
      go_wp2_with fail
      go_ret2
      exact ⟨rfl, rfl⟩
    · have e1 : numV n = 0 := by unfold numV; rw [if_neg h1, if_neg h2]
      have e2 : isV n = false := decide_eq_false (by omega)
      rw [e1, e2]
      go_enter Try.func29, Try.ntmps29
      go_wp2_with fail
      all_goals go_ret2
      all_goals first | exact ⟨rfl, rfl⟩ | (exfalso; omega)

/-- What the reference's value answers. -/
def valV (n : Nat) : Int := if isV n then (numV n : Nat) else -1
theorem value_any (n : Nat) (hn : n < 256) (w : World) : Calls Try.prog 30 #[.int .u8 n] w fun e w' => e = .returned (.int .i64 (valV n)) ∧ w = w' := by
  by_cases h1 : 48 ≤ n ∧ n ≤ 57
  · have e1 : valV n = (n : Int) - 48 := by unfold valV isV numV; rw [decide_eq_true (Or.inl h1), if_pos h1]; simp; omega
    obtain ⟨h1, h2⟩ := h1
    rw [e1]
    go_enter Try.func30, Try.ntmps30
    go_wp2_with fail
    go_ret
    exact ⟨rfl, rfl⟩
  · by_cases h2 : 97 ≤ n ∧ n ≤ 102
    · have e1 : valV n = (n : Int) - 87 := by unfold valV isV numV; rw [decide_eq_true (Or.inr h2), if_neg h1, if_pos h2]; simp; omega
      obtain ⟨h2, h3⟩ := h2
      rw [e1]
      go_enter Try.func30, Try.ntmps30
      go_wp2_with fail
      go_ret
      exact ⟨rfl, rfl⟩
    · have e1 : valV n = -1 := by unfold valV isV; rw [decide_eq_false (by omega)]; rfl
      rw [e1]
      go_enter Try.func30, Try.ntmps30
      go_wp2_with fail
      all_goals go_ret
      all_goals first | exact ⟨rfl, rfl⟩ | (exfalso; omega)
end Go.Proofs.Ytlcimiboalpdkaa

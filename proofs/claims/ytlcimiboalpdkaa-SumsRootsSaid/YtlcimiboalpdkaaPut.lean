/- The walk over the printer's method put. -/
import Derived.Test.YtlcimiboalpdkaaLat
namespace Go.Proofs.Ytlcimiboalpdkaa
open Go.RowKit

/-- A byte more in a number. -/
def pushB (x c : Nat) : Nat := x * 256 % 4294967296 + c
theorem push_or (x c : Nat) (hc : c < 256) : bits .or .u32 ((x : Int) * 256 % 4294967296) (c : Int) = ((pushB x c : Nat) : Int) ∧ pushB x c < 4294967296 := by
  have e : (x : Int) * 256 % 4294967296 = ((x * 256 % 4294967296 : Nat) : Int) := by
    rw [Int.natCast_emod, Int.natCast_mul]; rfl
  have h1 : x * 256 % 4294967296 = 2 ^ 8 * (x % 16777216) := by omega
  have h2 := Nat.two_pow_add_eq_or_of_lt (i := 8) (b := c) (by omega) (x % 16777216)
  rw [e]
  unfold pushB
  rw [h1, h2]
  refine ⟨u32_or_nat _ c (by omega) (by omega), ?_⟩
  rw [← h2]; omega

set_option maxHeartbeats 1000000 in
theorem put_core (g c : Nat) (s : Prt) (W : World) (p : PAt W g s) (hn : s.n < 63) (hc : c < 256) :
    Calls Try.prog 19 #[.pointer (some ⟨g, 0, none⟩), .int .u8 c] W fun e w' => e = .returned (.tuple #[]) ∧
      ∃ m, w' = ((W.setCell ⟨g, 8 + s.n / 4, none⟩ (.int .u32 (pushB (s.w.getD (s.n / 4) 0) c : Nat))).setCell ⟨g, 24, none⟩ (.int .i64 (s.n + 1 : Nat))).drewN m := by
  have f0 : W.frozen? ⟨g, 8 + s.n / 4, none⟩ = false := p.free _
  have f1 : W.frozen? ⟨g, 24, none⟩ = false := p.free _
  have c0 := p.w_cell (s.n / 4) (by omega)
  have n0 := p.n_cell
  obtain ⟨hv, hvl⟩ := push_or (s.w.getD (s.n / 4) 0) c hc
  generalize pushB (s.w.getD (s.n / 4) 0) c = v at *
  generalize s.w.getD (s.n / 4) 0 = x0 at *
  generalize s.n = n at *
  have hne : ¬ 8 + n / 4 = 24 := by omega
  have hne2 : ¬ 24 = 8 + n / 4 := by omega
  have HV := Lib.hid hv
  clear hv
  go_enter Try.func19, Try.ntmps19
  go_wp2_with fail
  go_quiet (fail)
  go_wp2_with fail
  rw [HV.out]
  go_end0
  exact ⟨rfl, nq, rfl⟩
end Go.Proofs.Ytlcimiboalpdkaa

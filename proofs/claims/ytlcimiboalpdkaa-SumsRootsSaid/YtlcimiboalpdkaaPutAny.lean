/- The printer's method put, with a block's last byte. -/
import Derived.Test.YtlcimiboalpdkaaStir
import Derived.Test.YtlcimiboalpdkaaPut
namespace Go.Proofs.Ytlcimiboalpdkaa
open Go.RowKit

/-- A byte more, before a block is looked at. -/
def Prt.put1 (s : Prt) (c : Nat) : Prt := { s with w := s.w.set (s.n / 4) (pushB (s.w.getD (s.n / 4) 0) c), n := s.n + 1 }
/-- A byte more. -/
def Prt.put (s : Prt) (c : Nat) : Prt := if s.n = 63 then { (s.put1 c).stirred with n := 0 } else s.put1 c

theorem PAt.put1 {W : World} {g : Nat} {s : Prt} (p : PAt W g s) (c : Nat) (hn : s.n < 64) (hc : c < 256) :
    PAt ((W.setCell ⟨g, 8 + s.n / 4, none⟩ (.int .u32 (pushB (s.w.getD (s.n / 4) 0) c : Nat))).setCell ⟨g, 24, none⟩ (.int .i64 (s.n + 1 : Nat))) g (s.put1 c) :=
  (p.set_w (s.n / 4) _ (by omega) (push_or _ c hc).2).set_n (s.n + 1)

set_option maxHeartbeats 1000000 in
theorem put_last (g c x0 : Nat) (s : Prt) (W : World) (p : PAt W g s) (hn : s.n = 63) (hx : s.w.getD 15 0 = x0) (hc : c < 256) :
    Calls Try.prog 19 #[.pointer (some ⟨g, 0, none⟩), .int .u8 c] W fun e w' => e = .returned (.tuple #[]) ∧ PAt w' g { (s.put1 c).stirred with n := 0 } ∧ W.grownBy w' (some g) := by
  have f0 : W.frozen? ⟨g, 23, none⟩ = false := p.free _
  have f1 : W.frozen? ⟨g, 24, none⟩ = false := p.free _
  have c0 : W.cell? ⟨g, 23, none⟩ = some (.int .u32 x0) := by have h := p.w_cell 15 (by omega); rw [hx] at h; exact h
  have n0 : W.cell? ⟨g, 24, none⟩ = some (.int .i64 63) := by have h := p.n_cell; rw [hn] at h; exact h
  have P1 : Hid (PAt ((W.setCell ⟨g, 23, none⟩ (.int .u32 (pushB x0 c : Nat))).setCell ⟨g, 24, none⟩ (.int .i64 64)) g (s.put1 c)) := by
    have h := p.put1 c (by omega) hc
    rw [hn] at h
    rw [hx] at h
    exact h
  obtain ⟨hv, hvl⟩ := push_or x0 c hc
  generalize pushB x0 c = v at *
  have HV := Lib.hid hv
  clear hv hn hx p
  go_enter Try.func19, Try.ntmps19
  go_wp2_with fail
  go_quiet (fail)
  go_wp2_with fail
  rw [HV.out]
  refine (stir_any g (s.put1 c) _ (P1.out.drewN nq)).mono ?_
  rintro e w' ⟨rfl, hp, hg⟩
  have f2 : w'.frozen? ⟨g, 24, none⟩ = false := hp.free _
  have k2 := hp.n_cell
  have HP := Lib.hid hp
  clear hp
  go_wp2_with fail
  go_end0
  refine ⟨rfl, HP.out.set_n 0, ?_⟩
  refine grown_set (World.grownBy.trans ?_ hg) _ _
  exact grown_drewN (grown_set (grown_set ⟨rfl, rfl, rfl, Nat.le_refl _, fun _ _ _ => rfl⟩ _ _) _ _) nq

theorem put_any (g c : Nat) (s : Prt) (W : World) (p : PAt W g s) (hn : s.n < 64) (hc : c < 256) :
    Calls Try.prog 19 #[.pointer (some ⟨g, 0, none⟩), .int .u8 c] W fun e w' => e = .returned (.tuple #[]) ∧ PAt w' g (s.put c) ∧ W.grownBy w' (some g) := by
  by_cases h : s.n = 63
  · rw [show s.put c = { (s.put1 c).stirred with n := 0 } from if_pos h]
    exact put_last g c _ s W p h rfl hc
  · rw [show s.put c = s.put1 c from if_neg h]
    refine (put_core g c s W p (by omega) hc).mono ?_
    rintro e w' ⟨rfl, m, rfl⟩
    exact ⟨rfl, (p.put1 c hn hc).drewN m, grown_drewN (grown_set (grown_set ⟨rfl, rfl, rfl, Nat.le_refl _, fun _ _ _ => rfl⟩ _ _) _ _) m⟩

theorem Prt.put_n (s : Prt) (c : Nat) (hn : s.n < 64) : (s.put c).n < 64 ∧ (s.put c).n = (s.n + 1) % 64 := by
  unfold Prt.put
  split
  · rename_i h; rw [h]; exact ⟨show 0 < 64 by decide, rfl⟩
  · exact ⟨show s.n + 1 < 64 by omega, show s.n + 1 = (s.n + 1) % 64 by omega⟩
end Go.Proofs.Ytlcimiboalpdkaa

/- The walks over the printer's methods later and put. -/
import Derived.Test.YtlcimiboalpdkaaPrt
import Derived.Test.YtlcimiboalpdkaaTail
namespace Go.Proofs.Ytlcimiboalpdkaa
open Go.RowKit

theorem spread_int (x : Nat) (p q r : Int) (hx : x < 4294967296) (hp : 1 ≤ p ∧ p ≤ 31) (hq : 1 ≤ q ∧ q ≤ 31) (hr : 1 ≤ r ∧ r ≤ 31) (w : World) :
    Calls Try.prog 40 #[.int .u32 x, .int .i64 p, .int .i64 q, .int .i64 r] w fun e w' => e = .returned (.int .u32 (spread3 x p.toNat q.toNat r.toNat : Nat)) ∧ ∃ n, w' = w.drewN n := by
  have h := spread_any x p.toNat q.toNat r.toNat hx (by omega) (by omega) (by omega) (by omega) (by omega) (by omega) w
  rw [Int.toNat_of_nonneg (by omega), Int.toNat_of_nonneg (by omega), Int.toNat_of_nonneg (by omega)] at h
  exact h

set_option maxHeartbeats 1000000 in
theorem later_core (g t a b c d : Nat) (s : Prt) (W : World) (p : PAt W g s) (ht : t < 64) (ha : t % 16 = a) (hb : (t + 1) % 16 = b) (hc : (t + 9) % 16 = c) (hd : (t + 14) % 16 = d) :
    Calls Try.prog 36 #[.pointer (some ⟨g, 0, none⟩), .int .i64 t] W fun e w' =>
      e = .returned (.int .u32 ((s.w.getD a 0 + (spread3 (s.w.getD b 0) 7 18 3 + s.w.getD c 0 + spread3 (s.w.getD d 0) 17 19 10)) % 4294967296 : Nat)) ∧
      ∃ m, w' = (W.setCell ⟨g, 8 + a, none⟩ (.int .u32 ((s.w.getD a 0 + (spread3 (s.w.getD b 0) 7 18 3 + s.w.getD c 0 + spread3 (s.w.getD d 0) 17 19 10)) % 4294967296 : Nat))).drewN m := by
  have ha1 : a < 16 := by omega
  have hb1 : b < 16 := by omega
  have hc1 : c < 16 := by omega
  have hd1 : d < 16 := by omega
  have f0 : W.frozen? ⟨g, 8 + a, none⟩ = false := p.free _
  have c0 := p.w_cell a ha1
  have c1 := p.w_cell b hb1
  have c2 := p.w_cell c hc1
  have c3 := p.w_cell d hd1
  have l0 := p.ok.w_lt a
  have l1 := p.ok.w_lt b
  have l2 := p.ok.w_lt c
  have l3 := p.ok.w_lt d
  generalize s.w.getD a 0 = x0 at *
  generalize s.w.getD b 0 = x1 at *
  generalize s.w.getD c 0 = x2 at *
  generalize s.w.getD d 0 = x3 at *
  have p0 : (0 : Int) ≤ (a : Int) := by omega
  have q0 : (a : Int) < 16 := by omega
  have p1 : (0 : Int) ≤ (b : Int) := by omega
  have q1 : (b : Int) < 16 := by omega
  have p2 : (0 : Int) ≤ (c : Int) := by omega
  have q2 : (c : Int) < 16 := by omega
  have p3 : (0 : Int) ≤ (d : Int) := by omega
  have q3 : (d : Int) < 16 := by omega
  have g0 : (t : Int).tmod 16 = a := by rw [Int.tmod_eq_emod_of_nonneg (by omega)]; omega
  have g1 : (IntKind.i64.wrap ((t : Int) + 1)).tmod 16 = b := by rw [Go.IntWalk.i64_in _ (by omega), Int.tmod_eq_emod_of_nonneg (by omega)]; omega
  have g2 : (IntKind.i64.wrap ((t : Int) + 9)).tmod 16 = c := by rw [Go.IntWalk.i64_in _ (by omega), Int.tmod_eq_emod_of_nonneg (by omega)]; omega
  have g3 : (IntKind.i64.wrap ((t : Int) + 14)).tmod 16 = d := by rw [Go.IntWalk.i64_in _ (by omega), Int.tmod_eq_emod_of_nonneg (by omega)]; omega
  obtain ⟨v, hv⟩ : ∃ v, (x0 + (spread3 x1 7 18 3 + x2 + spread3 x3 17 19 10)) % 4294967296 = v := ⟨_, rfl⟩
  rw [hv]
  have HV : Hid (((x0 : Int) + (((spread3 x1 7 18 3 : Nat) : Int) + (x2 : Int) + ((spread3 x3 17 19 10 : Nat) : Int))) % 4294967296 = ((v : Nat) : Int)) := by
    show _ = _
    rw [← hv, Int.natCast_emod, Int.natCast_add, Int.natCast_add, Int.natCast_add]; rfl
  clear ha hb hc hd hv
  go_enter Try.func36, Try.ntmps36
  go_wp2_with fail
  refine wp_region_quiet_tail 34 (by kernel_rfl) (by kernel_rfl) ?_
  simp only [List.take_succ_cons, List.take_zero, List.drop_succ_cons, List.drop_zero]
  repeat (quiet_step ((go_at_call 40; exact Calls.quiet_of (spread_int _ _ _ _ (by first | exact l1 | exact l3) (by decide) (by decide) (by decide) _))))
  refine wpQuiet_nil ?_
  intro m
  go_wp2
  rw [HV.out]
  go_ret
  exact ⟨rfl, m, rfl⟩

/-- The number of a round from the sixteenth on. -/
def laterV (w : List Nat) (t : Nat) : Nat := (w.getD (t % 16) 0 + (spread3 (w.getD ((t + 1) % 16) 0) 7 18 3 + w.getD ((t + 9) % 16) 0 + spread3 (w.getD ((t + 14) % 16) 0) 17 19 10)) % 4294967296
theorem laterV_lt (w : List Nat) (t : Nat) : laterV w t < 4294967296 := Nat.mod_lt _ (by decide)

theorem later_any (g t : Nat) (s : Prt) (W : World) (p : PAt W g s) (ht : t < 64) :
    Calls Try.prog 36 #[.pointer (some ⟨g, 0, none⟩), .int .i64 t] W fun e w' =>
      e = .returned (.int .u32 (laterV s.w t : Nat)) ∧ ∃ m, w' = (W.setCell ⟨g, 8 + t % 16, none⟩ (.int .u32 (laterV s.w t : Nat))).drewN m :=
  later_core g t _ _ _ _ s W p ht rfl rfl rfl rfl
end Go.Proofs.Ytlcimiboalpdkaa

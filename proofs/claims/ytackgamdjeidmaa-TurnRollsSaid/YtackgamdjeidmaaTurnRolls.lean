/- TurnRolls returns true for every string and every int: rolled along a text, the sum is that of each window. -/
import Derived.Test.YtackgamdjeidmaaRows
import Derived.Test.YtackgamdjeidmaaLawJoins
import Derived.WalkKit
import Derived.ProofKit
import Derived.OpenShut
import Derived.ShutString
namespace Go.Proofs.Ytackgamdjeidmaa.turnRolls
open Go.ChangeShapes Go.WideShapes Go.ChangeAt Go.RowKit
open Go.ChangeMaps (open_string shut_string)
set_option linter.unusedVariables false      -- a walk need not use every 'w<i>' (that an integer argument fits its kind)

theorem own : ownKnob Try.prog.godebug = none := by kernel_rfl

set_option maxHeartbeats 1000000 in
theorem walk (a0 : ByteArray) (a1 : Int) (w0 : a0.size ≤ maxLen) (w1 : (Lit.int .i64 a1).wf = true) (w : World) :
    Calls Try.prog 7 #[.string a0, .int .i64 a1] w fun e w' => e = .returned (.bool true) ∧ Below w.heap.size w w' := by
  unfold maxLen at w0
  by_cases hin : a0.size ≤ 3000 ∧ 1 ≤ a1 ∧ a1 ≤ 100 ∧ a1 ≤ a0.size
  · obtain ⟨hs, h1, h2, h3⟩ := hin
    clear w0 w1
    obtain ⟨m, rfl⟩ : ∃ m : Nat, a1 = m := ⟨a1.toNat, by omega⟩
    go_enter Try.func7, Try.ntmps7
    go_wp2_with fail
    refine (awake_any w).mono ?_
    rintro e w' ⟨rfl, n, rfl⟩
    go_wp2_with fail
    refine (sum_win a0 m 0 m (by omega) (by omega) _).mono ?_
    rintro e w' ⟨rfl, n1, rfl⟩
    go_wp2_with fail
    go_loopw [5, 6] (fun z i wr => ∃ q : Nat, q + m ≤ a0.size ∧ i = .int .i64 (q + m : Nat) ∧ z = .complex .f64 (W (winS a0 m q).1) (W (winS a0 m q).2) ∧ ∃ n, wr = w.drewN n) (fun _ i _ => a0.size - (intOf i).toNat)
    case atStart => exact ⟨0, by omega, by simp, rfl, _, rfl⟩
    case round =>
      obtain ⟨q, hq, rfl, rfl, hw⟩ := hrel
      have HW := Lib.hid hw
      clear hw
      by_cases hlt : q + m < a0.size
      · have R : Hid (∀ w, _) := fun w => roll_win a0 m q (by omega) (by omega) hlt w
        have T : Hid (∀ w, _) := fun w => sum_win a0 m (q + 1) (q + m + 1) (by omega) (by omega) w
        have hb := winS_le a0 m (q + 1)
        have o1 := order_self (a := (winS a0 m (q + 1)).1) (by omega)
        have o2 := order_self (a := (winS a0 m (q + 1)).2) (by omega)
        clear hb
        go_wp2_with fail
        have k1 : IntKind.i64.wrap (q : Int) = q := Go.IntWalk.i64_in _ (by omega)
        have k2 : (0 : Int) ≤ (q : Int) + m := by omega
        have k3 : ((q : Int) + m).toNat = q + m := by omega
        have k4 : (q : Int) + m < a0.size := by omega
        have k5 : q < a0.size := by omega
        go_quiet ((go_at_call 22; exact quiet_left (R.out _)))
        clear k1
        go_wp2_with fail
        refine (T.out _).mono ?_
        rintro e w' ⟨rfl, n2, rfl⟩
        go_wp2
        go_roundw
        case rel =>
          obtain ⟨n3, hn⟩ := HW.out
          exact ⟨q + 1, by omega, by go_num, rfl, n3 + (nq + n2), by rw [hn, World.drewN_drewN]⟩
        case measure => simp [intOf]; omega
      · go_wp2
        go_ret
        obtain ⟨n3, hn⟩ := HW.out
        exact ⟨rfl, by rw [hn]; exact below_drewN (Below.refl _ _) _⟩
  · have : 3000 < a0.size ∨ (a0.size ≤ 3000 ∧ a1 < 1) ∨ (a0.size ≤ 3000 ∧ 1 ≤ a1 ∧ 100 < a1) ∨ (a0.size ≤ 3000 ∧ 1 ≤ a1 ∧ a1 ≤ 100 ∧ (a0.size : Int) < a1) := by omega
    clear hin w1
    go_enter Try.func7, Try.ntmps7
    go_wp2_with fail
    refine (awake_any w).mono ?_
    rintro e w' ⟨rfl, n, rfl⟩
    rcases this with h | ⟨h, h1⟩ | ⟨h, h1, h2⟩ | ⟨h, h1, h2, h3⟩
    all_goals
      go_wp2
      go_ret
      exact ⟨rfl, below_drewN (Below.refl _ _) _⟩

set_option maxRecDepth 100000 in
theorem lifted (os : Os) (started : os.Started) (H : Type) (enc : TypeId × Value → H) :
    ReturnsInHanded {} Try.checked os 7 .any (Rows.turnRollsSpec.pre6 enc Try.prog Try.f7 Rows.turnRollsRow.domain false) (Rows.turnRollsSpec.post enc Try.prog Try.f7 false true false false) := by
  refine returnsInHanded_of_change (C := Try.checked) own started (by kernel_rfl) Try.func7
    (ChangeSpec.witness6 (enc := enc) (C := Try.checked) false ⟨#[], #[.string ByteArray.empty, .int .i64 0], []⟩ 8 (by kernel_rfl) (by kernel_rfl) (by kernel_rfl) (by kernel_rfl)) ?_
  intro W base args ds gs before hval0 hW hcnd _
  have hval : ∀ (j : Nat) t v, Try.f7.params[j]? = some t → args[j]? = some v → Value.okWide Try.prog W .any base t v := hval0
  have hW' := hW
  obtain ⟨p, q, hA0, hV, rfl, hfz, hnd⟩ := hW
  have hA : DataW.TrodAll enc Try.prog W 0 (fun _ => true) true Try.f7.params.toList args.toList ds p := hA0
  rw [Try.params7] at hA hval
  obtain ⟨v0, vs0, d0, ds0, p0, q0, hargs, rfl, rfl, h0, r0⟩ := trodAll_cons hA
  obtain ⟨v1, vs1, d1, ds1, p1, q1, rfl, rfl, rfl, h1, r1⟩ := trodAll_cons r0
  obtain ⟨rfl, rfl, rfl⟩ := trodAll_nil r1
  obtain rfl : args = #[v0, v1] := by cases args; simp_all
  obtain ⟨rfl, rfl⟩ := trodVars_none hV
  obtain ⟨a0, rfl, rfl, rfl, w0⟩ := open_string Try.underlying9 (hval 0 9 v0 rfl rfl) h0
  obtain ⟨a1, rfl, rfl, rfl, w1⟩ := open_int Try.underlying3 (hval 1 3 v1 rfl rfl) h1
  clear hA0 hval0
  simp only [List.append_nil] at hW'
  refine (walk a0 a1 w0 w1 W).mono fun e W' ⟨he, hg⟩ => ?_
  subst he
  exact ⟨_, rfl, post_of_below (pa := []) (pv := []) hW' (fun _ _ _ => (trodAll_cons_mk (shut_bool Try.underlying4 _) trodAll_mk0)) (fun sp _ => (trodAll_cons_mk (shut_string Try.underlying9 w0) (trodAll_cons_mk (shut_int Try.underlying3 w1) trodAll_mk0))) (fun _ _ => rfl) rfl
    hg (ok_one (by kernel_rfl) rfl (okWide_bool_mk Try.underlying4 _))⟩

theorem over : Rows.turnRollsRow.holds Try.pinned (OpenSpec.ofChange Rows.turnRollsSpec) :=
  OpenClaim.holds_of_wide 7 Try.f7 rfl rfl rfl rfl rfl rfl rfl ⟨rfl, rfl, rfl, rfl, rfl⟩ rfl rfl rfl rfl rfl (by kernel_rfl) Try.func7 (by kernel_rfl)
    (of_decide_eq_true (by kernel_rfl)) (by unfold Func.isWrapper; first | (rw [if_pos (by decide +kernel)]; kernel_rfl) | (rw [if_neg (by decide +kernel)]; exact ⟨rfl, rfl⟩))
    (fun os started H enc _ => lifted os started H enc)

/-- The statement. -/
theorem proved : Rows.TurnRollsSaid :=
  over
#print axioms proved
end Go.Proofs.Ytackgamdjeidmaa.turnRolls

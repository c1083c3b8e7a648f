/- TurnFour returns true for every byte and every int16: four equal bytes cancel out, and a quarter turn four times is none. -/
import Derived.Test.YtackgamdjeidmaaRows
import Derived.Test.YtackgamdjeidmaaLawFour
import Derived.WalkKit
import Derived.ProofKit
import Derived.OpenShut
import Derived.ShutString
namespace Go.Proofs.Ytackgamdjeidmaa.turnFour
open Go.ChangeShapes Go.WideShapes Go.ChangeAt Go.RowKit
open Go.ChangeMaps (open_string shut_string)
set_option linter.unusedVariables false      -- a walk need not use every 'w<i>' (that an integer argument fits its kind)

theorem own : ownKnob Try.prog.godebug = none := by kernel_rfl

set_option maxHeartbeats 1000000 in
theorem walk (a0 : Int) (a1 : Int) (w0 : (Lit.int .u8 a0).wf = true) (w1 : (Lit.int .i16 a1).wf = true) (w : World) :
    Calls Try.prog 5 #[.int .u8 a0, .int .i16 a1] w fun e w' => e = .returned (.bool true) ∧ Below w.heap.size w w' := by
  have wb0 := bounds_u8 w0
  have wb1 := bounds_i16 w1
  clear w0 w1
  obtain ⟨c, rfl⟩ : ∃ c : UInt8, a0 = c.toNat := ⟨UInt8.ofNat a0.toNat, by rw [UInt8.toNat_ofNat']; omega⟩
  have hcv := conv_four c w
  have S0 : Hid (∀ w, _) := fun w => sum_four c w
  clear wb0
  have b1 := wb1.1
  have b2 := wb1.2
  clear wb1
  have hm : a1 % 4 = 0 ∨ a1 % 4 = 1 ∨ a1 % 4 = 2 ∨ a1 % 4 = 3 := by omega
  rcases hm with hm | hm | hm | hm
  · have P1 := fun w => power_tab a1 0 (by omega) 4607182418800017408 0 (by decide) (by decide) w
    have P2 := fun w => power_tab (a1 + 4) 0 (by omega) 4607182418800017408 0 (by decide) (by decide) w
    have P3 := fun w => power_tab (-a1) 0 (by omega) 4607182418800017408 0 (by decide) (by decide) w
    have m1 := mul_tab 4607182418800017408 0 4607182418800017408 0 4607182418800017408 0 (by decide +kernel)
    have o1 : (FloatKind.f64.format.order 4607182418800017408 4607182418800017408 == some .eq) = true := by decide
    have o2 : (FloatKind.f64.format.order 0 0 == some .eq) = true := by decide
    have Q1 := Lib.hid P1; have Q2 := Lib.hid P2; have Q3 := Lib.hid P3
    clear P1 P2 P3 hm
    go_enter Try.func5, Try.ntmps5
    go_wp2_with fail
    refine (awake_any w).mono ?_
    rintro e w' ⟨rfl, n, rfl⟩
    go_wp2_with fail
    refine (Q1.out _).mono ?_
    rintro e w' ⟨rfl, rfl⟩
    go_wp2_with fail
    refine (S0.out _).mono ?_
    rintro e w' ⟨rfl, n1, rfl⟩
    go_wp2_with fail
    refine (Q2.out _).mono ?_
    rintro e w' ⟨rfl, rfl⟩
    go_wp2_with fail
    refine (Q3.out _).mono ?_
    rintro e w' ⟨rfl, rfl⟩
    go_wp2
    go_ret
    exact ⟨rfl, below_drewN ((below_drewN (Below.refl _ _) _).alloc (Nat.le_refl _) _) _⟩
  · have P1 := fun w => power_tab a1 1 (by omega) 0 4607182418800017408 (by decide) (by decide) w
    have P2 := fun w => power_tab (a1 + 4) 1 (by omega) 0 4607182418800017408 (by decide) (by decide) w
    have P3 := fun w => power_tab (-a1) 3 (by omega) 0 13830554455654793216 (by decide) (by decide) w
    have m1 := mul_tab 0 4607182418800017408 0 4607182418800017408 13830554455654793216 0 (by decide +kernel)
    have m2 := mul_tab 13830554455654793216 0 0 4607182418800017408 9223372036854775808 13830554455654793216 (by decide +kernel)
    have m3 := mul_tab 9223372036854775808 13830554455654793216 0 4607182418800017408 4607182418800017408 9223372036854775808 (by decide +kernel)
    have m4 := mul_tab 0 4607182418800017408 0 13830554455654793216 4607182418800017408 0 (by decide +kernel)
    have o1 : (FloatKind.f64.format.order 0 0 == some .eq) = true := by decide
    have o2 : (FloatKind.f64.format.order 4607182418800017408 4607182418800017408 == some .eq) = true := by decide
    have o3 : (FloatKind.f64.format.order 9223372036854775808 0 == some .eq) = true := by decide
    have Q1 := Lib.hid P1; have Q2 := Lib.hid P2; have Q3 := Lib.hid P3
    clear P1 P2 P3 hm
    go_enter Try.func5, Try.ntmps5
    go_wp2_with fail
    refine (awake_any w).mono ?_
    rintro e w' ⟨rfl, n, rfl⟩
    go_wp2_with fail
    refine (Q1.out _).mono ?_
    rintro e w' ⟨rfl, rfl⟩
    go_wp2_with fail
    refine (S0.out _).mono ?_
    rintro e w' ⟨rfl, n1, rfl⟩
    go_wp2_with fail
    refine (Q2.out _).mono ?_
    rintro e w' ⟨rfl, rfl⟩
    go_wp2_with fail
    refine (Q3.out _).mono ?_
    rintro e w' ⟨rfl, rfl⟩
    go_wp2
    go_ret
    exact ⟨rfl, below_drewN ((below_drewN (Below.refl _ _) _).alloc (Nat.le_refl _) _) _⟩
  · have P1 := fun w => power_tab a1 2 (by omega) 13830554455654793216 0 (by decide) (by decide) w
    have P2 := fun w => power_tab (a1 + 4) 2 (by omega) 13830554455654793216 0 (by decide) (by decide) w
    have P3 := fun w => power_tab (-a1) 2 (by omega) 13830554455654793216 0 (by decide) (by decide) w
    have m1 := mul_tab 13830554455654793216 0 13830554455654793216 0 4607182418800017408 9223372036854775808 (by decide +kernel)
    have m2 := mul_tab 4607182418800017408 9223372036854775808 13830554455654793216 0 13830554455654793216 0 (by decide +kernel)
    have o1 : (FloatKind.f64.format.order 13830554455654793216 13830554455654793216 == some .eq) = true := by decide
    have o2 : (FloatKind.f64.format.order 0 0 == some .eq) = true := by decide
    have o3 : (FloatKind.f64.format.order 4607182418800017408 4607182418800017408 == some .eq) = true := by decide
    have o4 : (FloatKind.f64.format.order 9223372036854775808 0 == some .eq) = true := by decide
    have Q1 := Lib.hid P1; have Q2 := Lib.hid P2; have Q3 := Lib.hid P3
    clear P1 P2 P3 hm
    go_enter Try.func5, Try.ntmps5
    go_wp2_with fail
    refine (awake_any w).mono ?_
    rintro e w' ⟨rfl, n, rfl⟩
    go_wp2_with fail
    refine (Q1.out _).mono ?_
    rintro e w' ⟨rfl, rfl⟩
    go_wp2_with fail
    refine (S0.out _).mono ?_
    rintro e w' ⟨rfl, n1, rfl⟩
    go_wp2_with fail
    refine (Q2.out _).mono ?_
    rintro e w' ⟨rfl, rfl⟩
    go_wp2_with fail
    refine (Q3.out _).mono ?_
    rintro e w' ⟨rfl, rfl⟩
    go_wp2
    go_ret
    exact ⟨rfl, below_drewN ((below_drewN (Below.refl _ _) _).alloc (Nat.le_refl _) _) _⟩
  · have P1 := fun w => power_tab a1 3 (by omega) 0 13830554455654793216 (by decide) (by decide) w
    have P2 := fun w => power_tab (a1 + 4) 3 (by omega) 0 13830554455654793216 (by decide) (by decide) w
    have P3 := fun w => power_tab (-a1) 1 (by omega) 0 4607182418800017408 (by decide) (by decide) w
    have m1 := mul_tab 0 13830554455654793216 0 13830554455654793216 13830554455654793216 9223372036854775808 (by decide +kernel)
    have m2 := mul_tab 13830554455654793216 9223372036854775808 0 13830554455654793216 9223372036854775808 4607182418800017408 (by decide +kernel)
    have m3 := mul_tab 9223372036854775808 4607182418800017408 0 13830554455654793216 4607182418800017408 0 (by decide +kernel)
    have m4 := mul_tab 0 13830554455654793216 0 4607182418800017408 4607182418800017408 0 (by decide +kernel)
    have o1 : (FloatKind.f64.format.order 0 0 == some .eq) = true := by decide
    have o2 : (FloatKind.f64.format.order 13830554455654793216 13830554455654793216 == some .eq) = true := by decide
    have o3 : (FloatKind.f64.format.order 4607182418800017408 4607182418800017408 == some .eq) = true := by decide
    have Q1 := Lib.hid P1; have Q2 := Lib.hid P2; have Q3 := Lib.hid P3
    clear P1 P2 P3 hm
    go_enter Try.func5, Try.ntmps5
    go_wp2_with fail
    refine (awake_any w).mono ?_
    rintro e w' ⟨rfl, n, rfl⟩
    go_wp2_with fail
    refine (Q1.out _).mono ?_
    rintro e w' ⟨rfl, rfl⟩
    go_wp2_with fail
    refine (S0.out _).mono ?_
    rintro e w' ⟨rfl, n1, rfl⟩
    go_wp2_with fail
    refine (Q2.out _).mono ?_
    rintro e w' ⟨rfl, rfl⟩
    go_wp2_with fail
    refine (Q3.out _).mono ?_
    rintro e w' ⟨rfl, rfl⟩
    go_wp2
    go_ret
    exact ⟨rfl, below_drewN ((below_drewN (Below.refl _ _) _).alloc (Nat.le_refl _) _) _⟩

set_option maxRecDepth 100000 in
theorem lifted (os : Os) (started : os.Started) (H : Type) (enc : TypeId × Value → H) :
    ReturnsInHanded {} Try.checked os 5 .any (Rows.turnFourSpec.pre6 enc Try.prog Try.f5 Rows.turnFourRow.domain false) (Rows.turnFourSpec.post enc Try.prog Try.f5 false true false false) := by
  refine returnsInHanded_of_change (C := Try.checked) own started (by kernel_rfl) Try.func5
    (ChangeSpec.witness6 (enc := enc) (C := Try.checked) false ⟨#[], #[.int .u8 0, .int .i16 0], []⟩ 8 (by kernel_rfl) (by kernel_rfl) (by kernel_rfl) (by kernel_rfl)) ?_
  intro W base args ds gs before hval0 hW hcnd _
  have hval : ∀ (j : Nat) t v, Try.f5.params[j]? = some t → args[j]? = some v → Value.okWide Try.prog W .any base t v := hval0
  have hW' := hW
  obtain ⟨p, q, hA0, hV, rfl, hfz, hnd⟩ := hW
  have hA : DataW.TrodAll enc Try.prog W 0 (fun _ => true) true Try.f5.params.toList args.toList ds p := hA0
  rw [Try.params5] at hA hval
  obtain ⟨v0, vs0, d0, ds0, p0, q0, hargs, rfl, rfl, h0, r0⟩ := trodAll_cons hA
  obtain ⟨v1, vs1, d1, ds1, p1, q1, rfl, rfl, rfl, h1, r1⟩ := trodAll_cons r0
  obtain ⟨rfl, rfl, rfl⟩ := trodAll_nil r1
  obtain rfl : args = #[v0, v1] := by cases args; simp_all
  obtain ⟨rfl, rfl⟩ := trodVars_none hV
  obtain ⟨a0, rfl, rfl, rfl, w0⟩ := open_int Try.underlying5 (hval 0 5 v0 rfl rfl) h0
  obtain ⟨a1, rfl, rfl, rfl, w1⟩ := open_int Try.underlying34 (hval 1 34 v1 rfl rfl) h1
  clear hA0 hval0
  simp only [List.append_nil] at hW'
  refine (walk a0 a1 w0 w1 W).mono fun e W' ⟨he, hg⟩ => ?_
  subst he
  exact ⟨_, rfl, post_of_below (pa := []) (pv := []) hW' (fun _ _ _ => (trodAll_cons_mk (shut_bool Try.underlying4 _) trodAll_mk0)) (fun sp _ => (trodAll_cons_mk (shut_int Try.underlying5 w0) (trodAll_cons_mk (shut_int Try.underlying34 w1) trodAll_mk0))) (fun _ _ => rfl) rfl
    hg (ok_one (by kernel_rfl) rfl (okWide_bool_mk Try.underlying4 _))⟩

theorem over : Rows.turnFourRow.holds Try.pinned (OpenSpec.ofChange Rows.turnFourSpec) :=
  OpenClaim.holds_of_wide 5 Try.f5 rfl rfl rfl rfl rfl rfl rfl ⟨rfl, rfl, rfl, rfl, rfl⟩ rfl rfl rfl rfl rfl (by kernel_rfl) Try.func5 (by kernel_rfl)
    (of_decide_eq_true (by kernel_rfl)) (by unfold Func.isWrapper; first | (rw [if_pos (by decide +kernel)]; kernel_rfl) | (rw [if_neg (by decide +kernel)]; exact ⟨rfl, rfl⟩))
    (fun os started H enc _ => lifted os started H enc)

/-- The statement. -/
theorem proved : Rows.TurnFourSaid :=
  over
#print axioms proved
end Go.Proofs.Ytackgamdjeidmaa.turnFour

/- TurnJoins returns true for every two strings: Join gives the sum of the two texts joined, and Less takes the second one away again. -/
import Derived.Test.YtackgamdjeidmaaRows
import Derived.Test.YtackgamdjeidmaaLawJoins
import Derived.WalkKit
import Derived.ProofKit
import Derived.OpenShut
import Derived.ShutString
namespace Go.Proofs.Ytackgamdjeidmaa.turnJoins
open Go.ChangeShapes Go.WideShapes Go.ChangeAt Go.RowKit
open Go.ChangeMaps (open_string shut_string)
set_option linter.unusedVariables false      -- a walk need not use every 'w<i>' (that an integer argument fits its kind)

theorem own : ownKnob Try.prog.godebug = none := by kernel_rfl

set_option maxHeartbeats 1000000 in
theorem walk (a0 : ByteArray) (a1 : ByteArray) (w0 : a0.size ≤ maxLen) (w1 : a1.size ≤ maxLen) (w : World) :
    Calls Try.prog 6 #[.string a0, .string a1] w fun e w' => e = .returned (.bool true) ∧ Below w.heap.size w w' := by
  by_cases hin : a0.size ≤ 3000 ∧ a1.size ≤ 3000
  · obtain ⟨hs, ht⟩ := hin
    have hb : (sumL a0.data.toList).1.natAbs ≤ 255 * a0.size ∧ (sumL a0.data.toList).2.natAbs ≤ 255 * a0.size := by simpa using sumL_le a0.data.toList
    have hc : (sumL a1.data.toList).1.natAbs ≤ 255 * a1.size ∧ (sumL a1.data.toList).2.natAbs ≤ 255 * a1.size := by simpa using sumL_le a1.data.toList
    have happ := sumL_append a0.data.toList a1.data.toList
    have hr := rotN_le a1.size (sumL a0.data.toList) (255 * 3000) (by omega) (by omega)
    rw [show a1.data.toList.length = a1.size by simp] at happ
    obtain ⟨x1, x2, hx⟩ : ∃ x1 x2, sumL a0.data.toList = (x1, x2) := ⟨_, _, rfl⟩
    obtain ⟨y1, y2, hy⟩ : ∃ x1 x2, sumL a1.data.toList = (x1, x2) := ⟨_, _, rfl⟩
    obtain ⟨z1, z2, hz⟩ : ∃ x1 x2, addZ (rotN a1.size (sumL a0.data.toList)) (sumL a1.data.toList) = (x1, x2) := ⟨_, _, rfl⟩
    rw [hx] at hz hb hr
    rw [hy] at hz hc
    have ez1 : (rotN a1.size (x1, x2)).1 + y1 = z1 := congrArg Prod.fst hz
    have ez2 : (rotN a1.size (x1, x2)).2 + y2 = z2 := congrArg Prod.snd hz
    simp only at hb hc
    have hz0 : sumL (a0 ++ a1).data.toList = (z1, z2) := by rw [← hz, ← hx, ← hy, ← happ]; simp
    have Sa : Hid (∀ w, _) := fun w => sum_of a0 x1 x2 hx (by omega) w
    have Sb : Hid (∀ w, _) := fun w => sum_of a1 y1 y2 hy (by omega) w
    have Sab : Hid (∀ w, _) := fun w => sum_of (a0 ++ a1) z1 z2 hz0 (by simp; omega) w
    have J : Hid (∀ w, _) := fun w => join_of a1.size x1 x2 z1 z2 y1 y2 hz (by omega) (by omega) (by omega) (by omega) w
    have L : Hid (∀ w, _) := fun w => less_of a1.size (by omega) z1 z2 y1 y2 x1 x2 (by rw [← hz]; simp only [subZ, addZ]; congr 1 <;> omega) (by omega) (by omega) (by omega) (by omega) w
    have J0 : Hid (∀ w, _) := fun w => join_of a1.size 0 0 y1 y2 y1 y2 (by rw [rotN_zero]; simp [addZ]) (by omega) (by omega) (by omega) (by omega) w
    have J1 : Hid (∀ w, _) := fun w => join_of 0 x1 x2 x1 x2 0 0 (by simp [rotN, addZ]) (by omega) (by omega) (by omega) (by omega) w
    have o1 := order_self (a := x1) (by omega)
    have o2 := order_self (a := x2) (by omega)
    have o3 := order_self (a := y1) (by omega)
    have o4 := order_self (a := y2) (by omega)
    have o5 := order_self (a := z1) (by omega)
    have o6 := order_self (a := z2) (by omega)
    rw [W_zero] at J0 J1
    clear happ hx hy hz ez1 ez2 hz0 hr hb hc w0 w1
    go_enter Try.func6, Try.ntmps6
    go_wp2_with fail
    refine (awake_any w).mono ?_
    rintro e w' ⟨rfl, n, rfl⟩
    go_wp2_with fail
    refine (Sa.out _).mono ?_
    rintro e w' ⟨rfl, n1, rfl⟩
    go_wp2_with fail
    refine (Sb.out _).mono ?_
    rintro e w' ⟨rfl, n2, rfl⟩
    go_wp2_with fail
    refine (J.out _).mono ?_
    rintro e w' ⟨rfl, rfl⟩
    go_wp2_with fail
    refine (Sab.out _).mono ?_
    rintro e w' ⟨rfl, n3, rfl⟩
    go_wp2_with fail
    refine (L.out _).mono ?_
    rintro e w' ⟨rfl, rfl⟩
    go_wp2_with fail
    refine (J0.out _).mono ?_
    rintro e w' ⟨rfl, rfl⟩
    go_wp2_with fail
    refine (J1.out _).mono ?_
    rintro e w' ⟨rfl, rfl⟩
    go_wp2
    go_ret
    exact ⟨rfl, below_drewN (Below.refl _ _) _⟩
  · have : 3000 < a0.size ∨ (a0.size ≤ 3000 ∧ 3000 < a1.size) := by omega
    clear hin
    go_enter Try.func6, Try.ntmps6
    go_wp2_with fail
    refine (awake_any w).mono ?_
    rintro e w' ⟨rfl, n, rfl⟩
    unfold maxLen at w0 w1
    rcases this with h | ⟨h, h1⟩
    · go_wp2
      go_ret
      exact ⟨rfl, below_drewN (Below.refl _ _) _⟩
    · go_wp2
      go_ret
      exact ⟨rfl, below_drewN (Below.refl _ _) _⟩

set_option maxRecDepth 100000 in
theorem lifted (os : Os) (started : os.Started) (H : Type) (enc : TypeId × Value → H) :
    ReturnsInHanded {} Try.checked os 6 .any (Rows.turnJoinsSpec.pre6 enc Try.prog Try.f6 Rows.turnJoinsRow.domain false) (Rows.turnJoinsSpec.post enc Try.prog Try.f6 false true false false) := by
  refine returnsInHanded_of_change (C := Try.checked) own started (by kernel_rfl) Try.func6
    (ChangeSpec.witness6 (enc := enc) (C := Try.checked) false ⟨#[], #[.string ByteArray.empty, .string ByteArray.empty], []⟩ 8 (by kernel_rfl) (by kernel_rfl) (by kernel_rfl) (by kernel_rfl)) ?_
  intro W base args ds gs before hval0 hW hcnd _
  have hval : ∀ (j : Nat) t v, Try.f6.params[j]? = some t → args[j]? = some v → Value.okWide Try.prog W .any base t v := hval0
  have hW' := hW
  obtain ⟨p, q, hA0, hV, rfl, hfz, hnd⟩ := hW
  have hA : DataW.TrodAll enc Try.prog W 0 (fun _ => true) true Try.f6.params.toList args.toList ds p := hA0
  rw [Try.params6] at hA hval
  obtain ⟨v0, vs0, d0, ds0, p0, q0, hargs, rfl, rfl, h0, r0⟩ := trodAll_cons hA
  obtain ⟨v1, vs1, d1, ds1, p1, q1, rfl, rfl, rfl, h1, r1⟩ := trodAll_cons r0
  obtain ⟨rfl, rfl, rfl⟩ := trodAll_nil r1
  obtain rfl : args = #[v0, v1] := by cases args; simp_all
  obtain ⟨rfl, rfl⟩ := trodVars_none hV
  obtain ⟨a0, rfl, rfl, rfl, w0⟩ := open_string Try.underlying9 (hval 0 9 v0 rfl rfl) h0
  obtain ⟨a1, rfl, rfl, rfl, w1⟩ := open_string Try.underlying9 (hval 1 9 v1 rfl rfl) h1
  clear hA0 hval0
  simp only [List.append_nil] at hW'
  refine (walk a0 a1 w0 w1 W).mono fun e W' ⟨he, hg⟩ => ?_
  subst he
  exact ⟨_, rfl, post_of_below (pa := []) (pv := []) hW' (fun _ _ _ => (trodAll_cons_mk (shut_bool Try.underlying4 _) trodAll_mk0)) (fun sp _ => (trodAll_cons_mk (shut_string Try.underlying9 w0) (trodAll_cons_mk (shut_string Try.underlying9 w1) trodAll_mk0))) (fun _ _ => rfl) rfl
    hg (ok_one (by kernel_rfl) rfl (okWide_bool_mk Try.underlying4 _))⟩

theorem over : Rows.turnJoinsRow.holds Try.pinned (OpenSpec.ofChange Rows.turnJoinsSpec) :=
  OpenClaim.holds_of_wide 6 Try.f6 rfl rfl rfl rfl rfl rfl rfl ⟨rfl, rfl, rfl, rfl, rfl⟩ rfl rfl rfl rfl rfl (by kernel_rfl) Try.func6 (by kernel_rfl)
    (of_decide_eq_true (by kernel_rfl)) (by unfold Func.isWrapper; first | (rw [if_pos (by decide +kernel)]; kernel_rfl) | (rw [if_neg (by decide +kernel)]; exact ⟨rfl, rfl⟩))
    (fun os started H enc _ => lifted os started H enc)

/-- The statement. -/
theorem proved : Rows.TurnJoinsSaid :=
  over
#print axioms proved
end Go.Proofs.Ytackgamdjeidmaa.turnJoins

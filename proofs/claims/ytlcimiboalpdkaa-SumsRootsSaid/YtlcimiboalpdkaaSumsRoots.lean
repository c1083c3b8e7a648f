/- SumsRoots returns true for every string: the fingerprint is that which the roots of the first primes make. -/
import Derived.Test.YtlcimiboalpdkaaRows
import Derived.Test.YtlcimiboalpdkaaPost
import Derived.Test.YtlcimiboalpdkaaAdds
import Derived.Test.YtlcimiboalpdkaaRoots
import Derived.WalkKit
import Derived.ProofKit
import Derived.OpenShut
import Derived.ShutString
namespace Go.Proofs.Ytlcimiboalpdkaa.sumsRoots
open Go.ChangeShapes Go.WideShapes Go.ChangeAt Go.RowKit
open Go.ChangeMaps (open_string shut_string)
set_option linter.unusedVariables false      -- a walk need not use every 'w<i>' (that an integer argument fits its kind)

theorem own : ownKnob Try.prog.godebug = none := by kernel_rfl

set_option maxHeartbeats 1000000 in
theorem walk (a0 : ByteArray) (w0 : a0.size ≤ maxLen) (w : World) :
    Calls Try.prog 4 #[.string a0] w fun e w' => e = .returned (.bool true) ∧ Below w.heap.size w w' := by
  by_cases hs : a0.size ≤ 200
  · obtain ⟨P, hP⟩ : ∃ P, P = printed a0 := ⟨_, rfl⟩
    have X := Lib.hid (fun v => print_any a0 v (by omega))
    have Y := Lib.hid (fun v g1 c1 g2 c2 (r1 : U64At v g1 sq8) (r2 : U64At v g2 kList) => by_known a0 v (by omega) g1 c1 g2 c2 r1 r2)
    have RA := Lib.hid (fun v => roots_any 8 2 20 (by decide) (by decide) (by decide) (by decide) (by decide) (by rw [roots_sq]; rfl) v)
    have RB := Lib.hid (fun v => roots_any 64 3 312 (by decide) (by decide) (by decide) (by decide) (by decide) (by rw [roots_cu]; unfold kList; rw [List.length_map, List.length_range]) v)
    rw [roots_sq] at RA
    rw [roots_cu] at RB
    rw [← hP] at X Y
    clear hP
    go_enter Try.func4, Try.ntmps4
    go_wp2_with fail
    refine (adds_any w).mono ?_
    rintro e W1 ⟨rfl, hG⟩
    go_wp2_with fail
    refine (RA.out _).mono ?_
    rintro e W2 ⟨v1, rfl, hown1, hG2⟩
    obtain ⟨g1, c1, rfl, -, -, -, -, u1⟩ := own_open hown1 (by decide)
    have U1 := Lib.hid u1
    clear hown1 u1
    go_wp2_with fail
    refine (RB.out _).mono ?_
    rintro e W3 ⟨v2, rfl, hown2, hG3⟩
    obtain ⟨g2, c2, rfl, -, -, -, -, u2⟩ := own_open hown2 (by decide)
    have U2 := Lib.hid u2
    have U13 := Lib.hid (U1.out.grown hG3 (by simp))
    clear hown2 u2
    go_wp2_with fail
    refine (X.out _).mono ?_
    rintro e W4 ⟨rfl, hG4⟩
    have U14 := Lib.hid (U13.out.grown hG4 (by simp))
    have U24 := Lib.hid (U2.out.grown hG4 (by simp))
    go_wp2_with fail
    refine (Y.out _ g1 c1 g2 c2 U14.out U24.out).mono ?_
    rintro e W5 ⟨rfl, hG5⟩
    go_wp2_with fail
    go_ret
    exact ⟨rfl, below_of_grown ((((hG.trans hG2).trans hG3).trans hG4).trans hG5)⟩
  · go_enter Try.func4, Try.ntmps4
    go_wp2_with fail
    refine (adds_any w).mono ?_
    rintro e W1 ⟨rfl, hG⟩
    go_wp2_with fail
    refine (adds_any _).mono ?_
    rintro e W2 ⟨rfl, hG2⟩
    go_wp2_with fail
    go_ret
    exact ⟨rfl, below_of_grown (hG.trans hG2)⟩

set_option maxRecDepth 100000 in
theorem lifted (os : Os) (started : os.Started) (H : Type) (enc : TypeId × Value → H) :
    ReturnsInHanded {} Try.checked os 4 .any (Rows.sumsRootsSpec.pre6 enc Try.prog Try.f4 Rows.sumsRootsRow.domain false) (Rows.sumsRootsSpec.post enc Try.prog Try.f4 false true false false) := by
  refine returnsInHanded_of_change (C := Try.checked) own started (by kernel_rfl) Try.func4
    (ChangeSpec.witness6 (enc := enc) (C := Try.checked) false ⟨#[], #[.string ByteArray.empty], []⟩ 8 (by kernel_rfl) (by kernel_rfl) (by kernel_rfl) (by kernel_rfl)) ?_
  intro W base args ds gs before hval0 hW hcnd _
  have hval : ∀ (j : Nat) t v, Try.f4.params[j]? = some t → args[j]? = some v → Value.okWide Try.prog W .any base t v := hval0
  have hW' := hW
  obtain ⟨p, q, hA0, hV, rfl, hfz, hnd⟩ := hW
  have hA : DataW.TrodAll enc Try.prog W 0 (fun _ => true) true Try.f4.params.toList args.toList ds p := hA0
  rw [Try.params4] at hA hval
  obtain ⟨v0, vs0, d0, ds0, p0, q0, hargs, rfl, rfl, h0, r0⟩ := trodAll_cons hA
  obtain ⟨rfl, rfl, rfl⟩ := trodAll_nil r0
  obtain rfl : args = #[v0] := by cases args; simp_all
  obtain ⟨rfl, rfl⟩ := trodVars_none hV
  obtain ⟨a0, rfl, rfl, rfl, w0⟩ := open_string Try.underlying9 (hval 0 9 v0 rfl rfl) h0
  clear hA0 hval0
  simp only [List.append_nil] at hW'
  refine (walk a0 w0 W).mono fun e W' ⟨he, hg⟩ => ?_
  subst he
  exact ⟨_, rfl, post_of_below (pa := []) (pv := []) hW' (fun _ _ _ => (trodAll_cons_mk (shut_bool Try.underlying4 _) trodAll_mk0)) (fun sp _ => (trodAll_cons_mk (shut_string Try.underlying9 w0) trodAll_mk0)) (fun _ _ => rfl) rfl
    hg (ok_one (by kernel_rfl) rfl (okWide_bool_mk Try.underlying4 _))⟩

theorem over : Rows.sumsRootsRow.holds Try.pinned (OpenSpec.ofChange Rows.sumsRootsSpec) :=
  OpenClaim.holds_of_wide 4 Try.f4 rfl rfl rfl rfl rfl rfl rfl ⟨rfl, rfl, rfl, rfl, rfl⟩ rfl rfl rfl rfl rfl (by kernel_rfl) Try.func4 (by kernel_rfl)
    (of_decide_eq_true (by kernel_rfl)) (by unfold Func.isWrapper; first | (rw [if_pos (by decide +kernel)]; kernel_rfl) | (rw [if_neg (by decide +kernel)]; exact ⟨rfl, rfl⟩))
    (fun os started H enc _ => lifted os started H enc)

/-- The statement. -/
theorem proved : Rows.SumsRootsSaid :=
  over
#print axioms proved
end Go.Proofs.Ytlcimiboalpdkaa.sumsRoots

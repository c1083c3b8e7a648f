/- SumsDigits returns true for every string: Hex and Raw are the reference's, and each other's way back. -/
import Derived.Test.YtlcimiboalpdkaaRows
import Derived.Test.YtlcimiboalpdkaaPost
import Derived.Test.YtlcimiboalpdkaaAdds
import Derived.Test.YtlcimiboalpdkaaBack
import Derived.WalkKit
import Derived.ProofKit
import Derived.OpenShut
import Derived.ShutString
namespace Go.Proofs.Ytlcimiboalpdkaa.sumsDigits
open Go.ChangeShapes Go.WideShapes Go.ChangeAt Go.RowKit
open Go.ChangeMaps (open_string shut_string)
set_option linter.unusedVariables false      -- a walk need not use every 'w<i>' (that an integer argument fits its kind)

theorem own : ownKnob Try.prog.godebug = none := by kernel_rfl

set_option maxHeartbeats 1000000 in
theorem walk (a0 : ByteArray) (w0 : a0.size ≤ maxLen) (w : World) :
    Calls Try.prog 7 #[.string a0] w fun e w' => e = .returned (.bool true) ∧ Below w.heap.size w w' := by
  by_cases hs : a0.size ≤ 5000
  · obtain ⟨D, hD⟩ : ∃ D : ByteArray, D = ⟨(hexL a0.data.toList).toArray⟩ := ⟨_, rfl⟩
    have hDs : D.size = 2 * a0.size := by
      have e : D.size = (hexL a0.data.toList).length := by rw [hD]; rfl
      rw [e, hexL_length]; rfl
    have X := hex_any a0
    have Y := refHex_any a0
    rw [← hD] at X Y
    have HX := Lib.hid X
    have HY := Lib.hid Y
    have HR := Lib.hid (raw_back a0 D hD)
    obtain ⟨o, b, HS0⟩ := raw_same a0
    have HS := Lib.hid HS0
    clear X Y hD HS0
    go_enter Try.func7, Try.ntmps7
    go_wp2_with fail
    refine (adds_any w).mono ?_
    rintro e W1 ⟨rfl, hG⟩
    go_wp2_with fail
    refine (HX.out _ (by omega)).mono ?_
    rintro e W2 ⟨rfl, hG2⟩
    go_wp2_with fail
    refine (raw_any D _ (by omega)).mono ?_
    rintro e W3 ⟨hE, hG3⟩
    obtain rfl := HR.out e hE
    go_wp2_with fail
    refine (HY.out _ (by omega)).mono ?_
    rintro e W4 ⟨rfl, m, rfl⟩
    go_wp2_with fail
    refine (raw_any a0 _ (by omega)).mono ?_
    rintro e W5 ⟨hE, hG5⟩
    obtain rfl := HS.out e hE
    clear hE
    go_wp2_with fail
    refine (refRaw_any a0 _ (by omega)).mono ?_
    rintro e W6 ⟨hE, hG6⟩
    obtain rfl := HS.out e hE
    clear hE
    go_wp2_with fail
    go_ret
    have h3 : w.grownBy W3 none := (hG.trans hG2).trans hG3
    have h4 : w.grownBy (W3.drewN m) none := ⟨h3.os, h3.tape, h3.output, h3.size, h3.block⟩
    exact ⟨rfl, below_of_grown ((h4.trans hG5).trans hG6)⟩
  · go_enter Try.func7, Try.ntmps7
    go_wp2_with fail
    refine (adds_any w).mono ?_
    rintro e W1 ⟨rfl, hG⟩
    go_wp2_with fail
    go_ret
    exact ⟨rfl, below_of_grown hG⟩

set_option maxRecDepth 100000 in
theorem lifted (os : Os) (started : os.Started) (H : Type) (enc : TypeId × Value → H) :
    ReturnsInHanded {} Try.checked os 7 .any (Rows.sumsDigitsSpec.pre6 enc Try.prog Try.f7 Rows.sumsDigitsRow.domain false) (Rows.sumsDigitsSpec.post enc Try.prog Try.f7 false true false false) := by
  refine returnsInHanded_of_change (C := Try.checked) own started (by kernel_rfl) Try.func7
    (ChangeSpec.witness6 (enc := enc) (C := Try.checked) false ⟨#[], #[.string ByteArray.empty], []⟩ 8 (by kernel_rfl) (by kernel_rfl) (by kernel_rfl) (by kernel_rfl)) ?_
  intro W base args ds gs before hval0 hW hcnd _
  have hval : ∀ (j : Nat) t v, Try.f7.params[j]? = some t → args[j]? = some v → Value.okWide Try.prog W .any base t v := hval0
  have hW' := hW
  obtain ⟨p, q, hA0, hV, rfl, hfz, hnd⟩ := hW
  have hA : DataW.TrodAll enc Try.prog W 0 (fun _ => true) true Try.f7.params.toList args.toList ds p := hA0
  rw [Try.params7] at hA hval
  obtain ⟨v0, vs0, d0, ds0, p0, q0, hargs, rfl, rfl, h0, r0⟩ := trodAll_cons hA
  obtain ⟨rfl, rfl, rfl⟩ := trodAll_nil r0
  obtain rfl : args = #[v0] := by cases args; simp_all
  obtain ⟨rfl, rfl⟩ := trodVars_none hV
  obtain ⟨a0, rfl, rfl, rfl, w0⟩ := open_string Try.underlying9 (hval 0 9 v0 rfl rfl) h0
  clear hA0 hval0
  simp only [List.append_nil] at hW'
  refine (walk a0 w0 W).mono fun e W' ⟨he, hg⟩ => ?_
  subst he
  exact ⟨_, rfl, post_of_below (pa := []) (pv := []) hW' (fun _ _ _ => (trodAll_cons_mk (shut_bool Try.underlying4 _) trodAll_mk0)) (fun sp _ => (trodAll_cons_mk (shut_string Try.underlying9 w0) trodAll_mk0)) (fun _ _ => rfl) rfl
    hg (ok_one (by kernel_rfl) rfl (okWide_bool_mk Try.underlying4 _))⟩

theorem over : Rows.sumsDigitsRow.holds Try.pinned (OpenSpec.ofChange Rows.sumsDigitsSpec) :=
  OpenClaim.holds_of_wide 7 Try.f7 rfl rfl rfl rfl rfl rfl rfl ⟨rfl, rfl, rfl, rfl, rfl⟩ rfl rfl rfl rfl rfl (by kernel_rfl) Try.func7 (by kernel_rfl)
    (of_decide_eq_true (by kernel_rfl)) (by unfold Func.isWrapper; first | (rw [if_pos (by decide +kernel)]; kernel_rfl) | (rw [if_neg (by decide +kernel)]; exact ⟨rfl, rfl⟩))
    (fun os started H enc _ => lifted os started H enc)

/-- The statement. -/
theorem proved : Rows.SumsDigitsSaid :=
  over
#print axioms proved
end Go.Proofs.Ytlcimiboalpdkaa.sumsDigits

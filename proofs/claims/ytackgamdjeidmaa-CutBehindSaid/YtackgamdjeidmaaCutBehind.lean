/- CutBehind returns true for every two strings: what follows a string changes only its last chunk. -/
import Derived.Test.YtackgamdjeidmaaRows
import Derived.Test.YtackgamdjeidmaaCutB
import Derived.WalkKit
import Derived.ProofKit
import Derived.OpenShut
import Derived.ShutString
namespace Go.Proofs.Ytackgamdjeidmaa.cutBehind
open Go.ChangeShapes Go.WideShapes Go.ChangeAt Go.RowKit
open Go.ChangeMaps (open_string shut_string)
set_option linter.unusedVariables false      -- a walk need not use every 'w<i>' (that an integer argument fits its kind)

theorem own : ownKnob Try.prog.godebug = none := by kernel_rfl

set_option maxHeartbeats 1000000 in
theorem walk (a0 : ByteArray) (a1 : ByteArray) (w0 : a0.size ≤ maxLen) (w1 : a1.size ≤ maxLen) (w : World) :
    Calls Try.prog 11 #[.string a0, .string a1] w fun e w' => e = .returned (.bool true) ∧ Below w.heap.size w w' := by
  unfold maxLen at w0 w1
  by_cases hin : a0.size ≤ 1500 ∧ a1.size ≤ 1500
  · obtain ⟨hs, ht⟩ := hin
    have hcntl := cutL_length a0.data.toList
    have hcntm := cutL_length (a0 ++ a1).data.toList
    rw [bytes_length] at hcntl hcntm
    have hss : (a0 ++ a1).size = a0.size + a1.size := by simp
    rw [hss] at hcntm
    have hbe := fun h => cutL_behind a0.data.toList a1.data.toList h
    have happ : a0.data.toList ++ a1.data.toList = (a0 ++ a1).data.toList := by simp
    rw [happ] at hbe
    have ca := Lib.hid (fun w => cut_any a0 w (by omega))
    have cb := Lib.hid (fun w => cut_any (a0 ++ a1) w (by omega))
    generalize cutL a0.data.toList = L at *
    generalize cutL (a0 ++ a1).data.toList = M at *
    clear happ hss
    go_enter Try.func11, Try.ntmps11
    go_wp2_with fail
    refine (cutAwake_any w).mono ?_
    rintro e w1 ⟨rfl, hb1⟩
    go_wp2_with fail
    refine (ca.out _).mono ?_
    rintro e w2 ⟨v, rfl, ⟨A, cap, rfl, hown2⟩, hb2⟩
    go_wp2_with fail
    refine (cb.out _).mono ?_
    rintro e w3 ⟨v, rfl, ⟨A3, cap3, rfl, hown3⟩, hb3⟩
    have hB2 := hb1.trans (hb2.mono hb1.size)
    have hB3 := hB2.trans (hb3.mono hB2.size)
    by_cases h0 : L = []
    · subst h0
      go_wp2
      go_ret
      exact ⟨rfl, hB3⟩
    · obtain ⟨t, r, hM⟩ := hbe h0
      have hTl := (TextsAt.of_own hown2).below hb3
      have hTm := TextsAt.of_own hown3
      have hcapl := own_cap hown2
      have hcapm := own_cap hown3
      have hL := List.dropLast_concat_getLast h0
      generalize L.dropLast = q at *
      generalize L.getLast h0 = o at *
      subst hL
      obtain ⟨b, off, rfl, hblt, hrl⟩ := hTl h0
      have hm0 : M ≠ [] := by rw [hM]; simp
      obtain ⟨b3, off3, rfl, hblt3, hrm⟩ := hTm hm0
      have ell : (q ++ [o]).length = q.length + 1 := by simp
      have hmk : q.length < M.length := by rw [hM]; simp
      have x0 := hrl q.length (by rw [ell]; omega)
      have y0 := hrm q.length hmk
      have ex : (q ++ [o])[q.length]'(by rw [ell]; omega) = o := by simp
      have ey : M[q.length] = o ++ t := by simp only [hM]; simp
      rw [ex] at x0
      rw [ey] at y0
      have hTq : TextsAt w3 w2.heap.size q (some ⟨b, off, none⟩) := fun _ => ⟨b, off, rfl, hblt, fun j hj => by
        have := hrl j (by rw [ell]; omega)
        rw [this, List.getElem_append_left hj]⟩
      have hTq3 : TextsAt w3 w3.heap.size q (some ⟨b3, off3, none⟩) := fun _ => ⟨b3, off3, rfl, hblt3, fun j hj => by
        have := hrm j (by omega)
        rw [this]
        simp only [hM]
        rw [List.getElem_append_left hj]⟩
      have hsame : Hid (∀ n, _) := fun n => same_any (some ⟨b3, off3, none⟩) (some ⟨b, off, none⟩) cap3 cap w3.heap.size w2.heap.size q (w3.drewN n) hTq3 hTq (by rw [ell] at hcntl; omega)
      obtain ⟨yo, hyo⟩ : ∃ y : ByteArray, y = ⟨o.toArray⟩ := ⟨_, rfl⟩
      obtain ⟨yx, hyx⟩ : ∃ y : ByteArray, y = ⟨(o ++ t).toArray⟩ := ⟨_, rfl⟩
      have hyl : yo.size ≤ yx.size := by rw [hyo, hyx]; simp [ByteArray.size]
      have s3 := slice_to yx yo t (by rw [hyo, hyx])
      rw [← hyo] at x0
      rw [← hyx] at y0
      clear hyo hyx ex ey hTq hTq3 hrl hrm hTl hTm hM hbe hown2 hown3 ca cb
      have s1 := slice_head_at b3 off3 cap3 M.length q.length (by omega)
      have s2 := slice_head_at b off cap (q ++ [o]).length q.length (by omega)
      rw [ell] at s2 hcapl
      rw [ell]
      generalize M.length = mlen at *
      generalize q.length = k at *
      clear ell hm0
      have d1 : decide ((k : Int) < (mlen : Int)) = true := by simp; omega
      have d2 : decide ((yo.size : Int) ≤ (yx.size : Int)) = true := by simp; omega
      have k2 : (0 : Int) ≤ (k : Int) := by omega
      go_wp2_with fail
      go_quiet ((go_at_call 24; exact quiet_more (hsame.out _)))
      go_wp2
      go_ret
      exact ⟨rfl, below_drewN hB3 _⟩
  · have : 1500 < a0.size ∨ (a0.size ≤ 1500 ∧ 1500 < a1.size) := by omega
    clear hin
    go_enter Try.func11, Try.ntmps11
    go_wp2_with fail
    refine (cutAwake_any w).mono ?_
    rintro e w1 ⟨rfl, hb1⟩
    rcases this with h | ⟨h, h1⟩
    · go_wp2
      go_ret
      exact ⟨rfl, hb1⟩
    · go_wp2
      go_ret
      exact ⟨rfl, hb1⟩

set_option maxRecDepth 100000 in
theorem lifted (os : Os) (started : os.Started) (H : Type) (enc : TypeId × Value → H) :
    ReturnsInHanded {} Try.checked os 11 .any (Rows.cutBehindSpec.pre6 enc Try.prog Try.f11 Rows.cutBehindRow.domain false) (Rows.cutBehindSpec.post enc Try.prog Try.f11 false true false false) := by
  refine returnsInHanded_of_change (C := Try.checked) own started (by kernel_rfl) Try.func11
    (ChangeSpec.witness6 (enc := enc) (C := Try.checked) false ⟨#[], #[.string ByteArray.empty, .string ByteArray.empty], []⟩ 8 (by kernel_rfl) (by kernel_rfl) (by kernel_rfl) (by kernel_rfl)) ?_
  intro W base args ds gs before hval0 hW hcnd _
  have hval : ∀ (j : Nat) t v, Try.f11.params[j]? = some t → args[j]? = some v → Value.okWide Try.prog W .any base t v := hval0
  have hW' := hW
  obtain ⟨p, q, hA0, hV, rfl, hfz, hnd⟩ := hW
  have hA : DataW.TrodAll enc Try.prog W 0 (fun _ => true) true Try.f11.params.toList args.toList ds p := hA0
  rw [Try.params11] at hA hval
  obtain ⟨v0, vs0, d0, ds0, p0, q0, hargs, rfl, rfl, h0, r0⟩ := trodAll_cons hA
  obtain ⟨v1, vs1, d1, ds1, p1, q1, rfl, rfl, rfl, h1, r1⟩ := trodAll_cons r0
  obtain ⟨rfl, rfl, rfl⟩ := trodAll_nil r1
  obtain rfl : args = #[v0, v1] := by cases args; simp_all
  obtain ⟨rfl, rfl⟩ := trodVars_none hV
  obtain ⟨a0, rfl, rfl, rfl, w0⟩ := open_string Try.underlying9 (hval 0 9 v0 rfl rfl) h0
  obtain ⟨a1, rfl, rfl, rfl, w1⟩ := open_string Try.underlying9 (hval 1 9 v1 rfl rfl) h1
  clear hA0 hval0
  simp only [List.append_nil] at hW'
  refine (walk a0 a1 w0 w1 W).mono fun e W' ⟨he, hg⟩ => ?_
  subst he
  exact ⟨_, rfl, post_of_below (pa := []) (pv := []) hW' (fun _ _ _ => (trodAll_cons_mk (shut_bool Try.underlying4 _) trodAll_mk0)) (fun sp _ => (trodAll_cons_mk (shut_string Try.underlying9 w0) (trodAll_cons_mk (shut_string Try.underlying9 w1) trodAll_mk0))) (fun _ _ => rfl) rfl
    hg (ok_one (by kernel_rfl) rfl (okWide_bool_mk Try.underlying4 _))⟩

theorem over : Rows.cutBehindRow.holds Try.pinned (OpenSpec.ofChange Rows.cutBehindSpec) :=
  OpenClaim.holds_of_wide 11 Try.f11 rfl rfl rfl rfl rfl rfl rfl ⟨rfl, rfl, rfl, rfl, rfl⟩ rfl rfl rfl rfl rfl (by kernel_rfl) Try.func11 (by kernel_rfl)
    (of_decide_eq_true (by kernel_rfl)) (by unfold Func.isWrapper; first | (rw [if_pos (by decide +kernel)]; kernel_rfl) | (rw [if_neg (by decide +kernel)]; exact ⟨rfl, rfl⟩))
    (fun os started H enc _ => lifted os started H enc)

/-- The statement. -/
theorem proved : Rows.CutBehindSaid :=
  over
#print axioms proved
end Go.Proofs.Ytackgamdjeidmaa.cutBehind

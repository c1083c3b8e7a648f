/- CutWhole returns true for every string: its chunks put together are the string, all but the last one have 16 to 128 bytes, and behind the first one the rest is cut as a text of its own. -/
import Derived.Test.YtackgamdjeidmaaRows
import Derived.Test.YtackgamdjeidmaaCutA
import Derived.WalkKit
import Derived.Deep.RegionHeld3
import Derived.ProofKit
import Derived.OpenShut
import Derived.ShutString
namespace Go.Proofs.Ytackgamdjeidmaa.cutWhole
open Go.ChangeShapes Go.WideShapes Go.ChangeAt Go.RowKit
open Go.ChangeMaps (open_string shut_string)
set_option linter.unusedVariables false      -- a walk need not use every 'w<i>' (that an integer argument fits its kind)

theorem own : ownKnob Try.prog.godebug = none := by kernel_rfl

set_option maxHeartbeats 1000000 in
theorem walk (a0 : ByteArray) (w0 : a0.size ≤ maxLen) (w : World) :
    Calls Try.prog 10 #[.string a0] w fun e w' => e = .returned (.bool true) ∧ Below w.heap.size w w' := by
  unfold maxLen at w0
  by_cases hs : a0.size ≤ 3000
  · have hcnt := cutL_length a0.data.toList
    rw [bytes_length] at hcnt
    go_enter Try.func10, Try.ntmps10
    go_wp2_with fail
    refine (cutAwake_any w).mono ?_
    rintro e w1 ⟨rfl, hb1⟩
    go_wp2_with fail
    refine (cut_any a0 _ (by omega)).mono ?_
    rintro e w2 ⟨v, rfl, ⟨A, cap, rfl, hown2⟩, hb2⟩
    have hb2 := hb1.trans (hb2.mono hb1.size)
    have hT := TextsAt.of_own hown2
    have hcap : (cutL a0.data.toList).length ≤ cap := own_cap hown2
    have hsize := cutL_sizes a0.data.toList
    have hflat := cutL_flat a0.data.toList
    have hrest := cutL_rest a0.data.toList
    generalize cutL a0.data.toList = L at *
    clear hown2
    cases L with
    | nil =>
      have ha : a0 = ByteArray.mk #[] := bytes_nil hflat.symm
      clear hT hsize hflat hrest hcap
      subst ha
      go_wp2_with fail
      go_loop [4, 5, 6, 16] (fun al _ _ i => al = .string (ByteArray.mk #[]) ∧ i = .int .i64 0) (fun _ _ _ _ => 0)
      case atStart => exact ⟨rfl, rfl⟩
      case round =>
        obtain ⟨rfl, rfl⟩ := hrel
        go_wp2_with fail
        go_quiet (fail)
        go_wp2
        go_ret
        exact ⟨rfl, below_drewN hb2 _⟩
    | cons x r =>
      obtain ⟨b, off, rfl, hblt, hr⟩ := hT (by simp)
      have HR := Lib.hid (hrest x r rfl)
      have HF := Lib.hid hflat
      have HS := Lib.hid hsize
      have HC := Lib.hid hr
      clear hT hrest hflat hsize hr
      simp only [List.length_cons] at hcap hcnt
      go_wp2_with fail
      go_loop [4, 5, 6, 16] (fun al _ _ i => ∃ (k : Nat) (al' : ByteArray), k ≤ r.length + 1 ∧ i = .int .i64 k ∧ al = .string al' ∧ al'.data.toList = ((x :: r).take k).flatten) (fun _ _ _ i => r.length + 1 - (intOf i).toNat)
      case atStart => exact ⟨0, ByteArray.mk #[], by omega, rfl, rfl, rfl⟩
      case round =>
        obtain ⟨k, al, hk, rfl, rfl, hal⟩ := hrel
        have HAL := Lib.hid hal
        have hals := size_of_flat hal HF.out
        clear hal
        by_cases hlt : k < r.length + 1
        · have c0 : w2.cell? ⟨b, off + k, none⟩ = some (.string ⟨((x :: r)[k]'hlt).toArray⟩) := HC.out k hlt
          have hz := HS.out k hlt
          have HN : Hid (((x :: r).take (k + 1)).flatten = ((x :: r).take k).flatten ++ ((x :: r)[k]'hlt)) := by
            show _ = _
            rw [List.take_succ_eq_append_getElem hlt]
            simp only [List.flatten_append, List.flatten_cons, List.flatten_nil, List.append_nil]
          obtain ⟨y, hy⟩ : ∃ y : ByteArray, y = ⟨((x :: r)[k]'hlt).toArray⟩ := ⟨_, rfl⟩
          have hy2 : ((x :: r)[k]'hlt).length = y.size := by rw [hy]; simp [ByteArray.size]
          have hy3 : y.data.toList = ((x :: r)[k]'hlt) := by rw [hy]
          rw [← hy] at c0
          rw [hy2] at hz
          rw [← hy3] at HN
          simp only [List.length_cons] at hz
          clear hy hy2 hy3
          obtain ⟨hz1, hz2, hz3⟩ := hz
          by_cases h16 : y.size < 16
          case' pos => have hk2 : r.length ≤ k := by omega
          all_goals
            clear hz3
            go_wp2
            go_round
            case rel => exact ⟨k + 1, al ++ y, by omega, by go_num, rfl, by rw [HN.out, ← HAL.out]; simp⟩
            case measure => simp [intOf]; omega
        · obtain rfl : k = r.length + 1 := by omega
          have ht : (x :: r).take (r.length + 1) = x :: r := List.take_of_length_le (by simp)
          have ha : al = a0 := bytes_ext (by rw [HAL.out, ht]; exact HF.out)
          clear ht
          subst ha
          have c0 : w2.cell? ⟨b, off + 0, none⟩ = some (.string ⟨x.toArray⟩) := HC.out 0 (by simp)
          simp only [Nat.add_zero] at c0
          have t0 : ((r.length : Int) + 1 == 0) = false := by rw [beq_eq_false_iff_ne]; omega
          have hxs : x.length ≤ al.size := by rw [← bytes_length al, ← HF.out]; simp
          obtain ⟨y, hy⟩ : ∃ y : ByteArray, y = ⟨x.toArray⟩ := ⟨_, rfl⟩
          have hy2 : x.length = y.size := by rw [hy]; simp [ByteArray.size]
          rw [← hy] at c0
          rw [hy2] at hxs
          have HX : Hid (cutL (al.extract y.size al.size).data.toList = r) := by rw [extract_drop, ← hy2]; exact HR.out
          clear hy hy2
          have s1 := slice_from al y.size hxs
          obtain ⟨A2, s2, hA2⟩ := tail_at b off cap r.length hcap
          go_wp2_with fail
          go_region_held3 (fun w' => w'.cell? ⟨b, off, none⟩ = some (.string y)) (first | exact c0 | exact (hb3.cell (p := ⟨b, off, none⟩) hblt).trans c0)
            (first | (go_at_call 25; refine (cut_any _ _ (by simp; omega)).mono ?_; rw [HX.out]; rintro e w3 ⟨v, rfl, ⟨A', cap', rfl, hown3⟩, hb3⟩) | (go_at_call 24; refine (same_any _ _ _ _ w3.heap.size w2.heap.size r _ (TextsAt.of_own hown3) ((tail_texts HC.out hblt hA2).below (below_undrew hb3)) (by omega)).mono ?_; rintro e w4 ⟨rfl, n4, rfl⟩))
          go_wp2
          go_ret
          exact ⟨rfl, below_drewN (hb2.trans ((below_undrew hb3).mono hb2.size)) _⟩
  · go_enter Try.func10, Try.ntmps10
    go_wp2_with fail
    refine (cutAwake_any w).mono ?_
    rintro e w1 ⟨rfl, hb1⟩
    go_wp2
    go_ret
    exact ⟨rfl, hb1⟩

set_option maxRecDepth 100000 in
theorem lifted (os : Os) (started : os.Started) (H : Type) (enc : TypeId × Value → H) :
    ReturnsInHanded {} Try.checked os 10 .any (Rows.cutWholeSpec.pre6 enc Try.prog Try.f10 Rows.cutWholeRow.domain false) (Rows.cutWholeSpec.post enc Try.prog Try.f10 false true false false) := by
  refine returnsInHanded_of_change (C := Try.checked) own started (by kernel_rfl) Try.func10
    (ChangeSpec.witness6 (enc := enc) (C := Try.checked) false ⟨#[], #[.string ByteArray.empty], []⟩ 8 (by kernel_rfl) (by kernel_rfl) (by kernel_rfl) (by kernel_rfl)) ?_
  intro W base args ds gs before hval0 hW hcnd _
  have hval : ∀ (j : Nat) t v, Try.f10.params[j]? = some t → args[j]? = some v → Value.okWide Try.prog W .any base t v := hval0
  have hW' := hW
  obtain ⟨p, q, hA0, hV, rfl, hfz, hnd⟩ := hW
  have hA : DataW.TrodAll enc Try.prog W 0 (fun _ => true) true Try.f10.params.toList args.toList ds p := hA0
  rw [Try.params10] at hA hval
  obtain ⟨v0, vs0, d0, ds0, p0, q0, hargs, rfl, rfl, h0, r0⟩ := trodAll_cons hA
  obtain ⟨rfl, rfl, rfl⟩ := trodAll_nil r0
  obtain rfl : args = #[v0] := by cases args; simp_all
  obtain ⟨rfl, rfl⟩ := trodVars_none hV
  obtain ⟨a0, rfl, rfl, rfl, w0⟩ := open_string Try.underlying9 (hval 0 9 v0 rfl rfl) h0
  clear hA0 hval0
  simp only [List.append_nil] at hW'
  refine (walk a0 w0 W).mono fun e W' ⟨he, hg⟩ => ?_
  subst he
  exact ⟨_, rfl, post_of_below (pa := []) (pv := []) hW' (fun _ _ _ => (trodAll_cons_mk (shut_bool Try.underlying4 _) trodAll_mk0)) (fun sp _ => (trodAll_cons_mk (shut_string Try.underlying9 w0) trodAll_mk0)) (fun _ _ => rfl) rfl
    hg (ok_one (by kernel_rfl) rfl (okWide_bool_mk Try.underlying4 _))⟩

theorem over : Rows.cutWholeRow.holds Try.pinned (OpenSpec.ofChange Rows.cutWholeSpec) :=
  OpenClaim.holds_of_wide 10 Try.f10 rfl rfl rfl rfl rfl rfl rfl ⟨rfl, rfl, rfl, rfl, rfl⟩ rfl rfl rfl rfl rfl (by kernel_rfl) Try.func10 (by kernel_rfl)
    (of_decide_eq_true (by kernel_rfl)) (by unfold Func.isWrapper; first | (rw [if_pos (by decide +kernel)]; kernel_rfl) | (rw [if_neg (by decide +kernel)]; exact ⟨rfl, rfl⟩))
    (fun os started H enc _ => lifted os started H enc)

/-- The statement. -/
theorem proved : Rows.CutWholeSaid :=
  over
#print axioms proved
end Go.Proofs.Ytackgamdjeidmaa.cutWhole

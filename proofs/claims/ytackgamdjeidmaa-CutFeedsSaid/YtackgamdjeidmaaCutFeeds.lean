/- CutFeeds returns true for every list of strings: the chunks do not depend on how the string is fed in parts, and a cutter is as new behind its end. -/
import Derived.Test.YtackgamdjeidmaaRows
import Derived.Test.YtackgamdjeidmaaCutP
import Derived.WalkKit
import Derived.ProofKit
import Derived.OpenShut
import Derived.ShutString
namespace Go.Proofs.Ytackgamdjeidmaa.cutFeeds
open Go.ChangeShapes Go.WideShapes Go.ChangeAt Go.RowKit
set_option linter.unusedVariables false

theorem own : ownKnob Try.prog.godebug = none := by kernel_rfl
theorem laidOut : laidOutB Try.prog = true := by kernel_rfl
theorem cells9 : Try.prog.cellsOf 9 = 1 := by kernel_rfl
theorem bytes9 : Try.prog.bytesOf 9 = 16 := by kernel_rfl

/-- What holds behind k parts. -/
def Fed3 (B g : Nat) (w1 : World) (ps : List ByteArray) (k : Nat) (v : Value) (al : ByteArray) (wr : World) : Prop :=
  ∃ l o, feedL ([], []) al.data.toList = (l, o) ∧ al.size = totOf ps k ∧ wr.ownsRow B 9 1 v l.length (strVals l) ∧ CutAt wr B g o ∧ Below B w1 wr

set_option maxHeartbeats 8000000 in
theorem walk (A : Option Addr) (cap : Nat) (ps : List ByteArray) (w : World) (hcell : ∀ k (h : k < ps.length), ∃ b off, A = some ⟨b, off, none⟩ ∧ b < w.heap.size ∧ w.cell? ⟨b, off + k, none⟩ = some (.string ps[k]))
    (hsz : ∀ s ∈ ps, s.size ≤ 140737488355328) (hlen : ps.length ≤ maxLen) :
    Calls Try.prog 9 #[.slice A ps.length cap] w fun e w' => e = .returned (.bool true) ∧ Below w.heap.size w w' := by
  unfold maxLen at hlen
  obtain ⟨i9, hi9, hz9, hs9, hb9⟩ := info_parts Try.info9
  have HC := Lib.hid hcell
  have HZ := Lib.hid hsz
  clear hcell hsz
  go_enter Try.func9, Try.ntmps9
  go_wp2_with fail
  refine (cutAwake_any w).mono ?_
  rintro e w1 ⟨rfl, hb1⟩
  by_cases h100 : ps.length ≤ 100
  · go_wp2_with fail
    go_loop [4, 6, 19] (fun n _ i => ∃ k : Nat, k ≤ ps.length ∧ i = .int .i64 k ∧ n = .int .i64 (totOf ps k) ∧ totOf ps k ≤ 3000) (fun _ _ i => ps.length - (intOf i).toNat)
    case atStart => exact ⟨0, by omega, rfl, rfl, by rw [totOf_zero]; omega⟩
    case round =>
      obtain ⟨k, hk, rfl, rfl, ht⟩ := hrel
      by_cases hlt : k < ps.length
      · obtain ⟨b, off, rfl, hbw, hc⟩ := HC.out k hlt
        have c0 := (hb1.cell (p := ⟨b, off + k, none⟩) hbw).trans hc
        have hps := HZ.out ps[k] (List.getElem_mem hlt)
        have HT := Lib.hid (totOf_succ ps k hlt)
        clear hc
        generalize ps[k] = y at *
        by_cases h3 : totOf ps k + y.size ≤ 3000
        · go_wp2
          go_round
          case rel => exact ⟨k + 1, by omega, by go_num, by rw [HT.out]; go_num, by rw [HT.out]; exact h3⟩
          case measure => simp [intOf]; omega
        · go_wp2
          go_ret
          exact ⟨rfl, hb1⟩
      · obtain rfl : k = ps.length := by omega
        go_wp2_with fail
        refine (new_any w1).mono ?_
        rintro e w2 ⟨rfl, hw2⟩
        have hn2 : CutAt w2 w1.heap.size w1.heap.size [] := by rw [hw2]; exact cutAt_new (Nat.le_refl _)
        have hB2 : Below w1.heap.size w1 w2 := by rw [hw2]; exact (Below.refl _ _).alloc (Nat.le_refl _) _
        clear hw2
        go_wp2_with fail
        go_loopw [31] (fun i wr => ∃ i' : Nat, i' ≤ 2 ∧ i = .int .i64 i' ∧ CutAt wr w1.heap.size w1.heap.size [] ∧ Below w1.heap.size w1 wr) (fun i _ => 2 - (intOf i).toNat)
        case atStart => exact ⟨0, by omega, rfl, hn2, hB2⟩
        case round =>
          obtain ⟨i, hi, rfl, hc, hB⟩ := hrel
          by_cases hi2 : i < 2
          · obtain ⟨wo, rfl⟩ : ∃ wo : World, wo = wr := ⟨_, rfl⟩
            have hd2 : decide ((i : Int) < 2) = true := by simp; omega
            go_wp2_with fail
            go_loopw [3, 8, 10, 35] (fun al v _ j wr => ∃ (k : Nat) (al' : ByteArray), k ≤ ps.length ∧ j = .int .i64 k ∧ al = .string al' ∧ Fed3 w1.heap.size w1.heap.size w1 ps k v al' wr) (fun _ _ _ j _ => ps.length - (intOf j).toNat)
            case atStart => exact ⟨0, ByteArray.mk #[], by omega, rfl, rfl, [], [], rfl, rfl, World.ownsRow_nil _ _ _ _, hc, hB⟩
            case round =>
              obtain ⟨k, al, hk3, rfl, rfl, l, o, hfd, has, hown, hcut, hBr⟩ := hrel
              obtain ⟨Al, cl, rfl⟩ := own_slice hown
              have hfeds := Fed.feed al.data.toList (st := ([], [])) Fed.start
              rw [hfd] at hfeds
              have ho := hfeds.short
              simp only at ho
              have hcount := cutL_parts [] al.data.toList
              rw [hfd, bytes_length] at hcount
              simp only at hcount
              clear hfeds
              by_cases hlt3 : k < ps.length
              · obtain ⟨b, off, hA, hbw, hcc⟩ := HC.out k hlt3
                have c0 := (hBr.cell (p := ⟨b, off + k, none⟩) (Nat.lt_of_lt_of_le hbw hb1.size)).trans ((hb1.cell (p := ⟨b, off + k, none⟩) hbw).trans hcc)
                have htk := totOf_succ ps k hlt3
                have htl := totOf_le ps (k + 1)
                subst hA
                clear hcc
                generalize ps[k] = y at *
                have hmore := feed_more (p := y.data.toList) hfd
                have hcm := cutL_parts o y.data.toList
                rw [bytes_length] at hcm
                have HM := Lib.hid hmore
                have HAS := Lib.hid has
                have HTK := Lib.hid htk
                have hb1500 : al.size + y.size ≤ 3000 := by omega
                clear hmore hfd has htk
                go_wp2_with fail
                refine (feed_any w1.heap.size w1.heap.size o y _ hcut hBr.size ho (by omega)).mono ?_
                rintro e w3 ⟨A3, cap3, rfl, hown3, hc3, hf3⟩
                obtain ⟨_, A4, cap4, hblk4, _⟩ := hcut
                have hownl := own_fr hown hblk4 hf3
                have hB3 := hBr.trans hf3.below
                clear hown hblk4 hf3
                generalize feedL ([], o) y.data.toList = st at *
                go_wp2_with (at_builtin; refine wpList_append_any _ rfl (.tmp 39) (.tmp 42) 41 rfl w1.heap.size 9 i9 (.string ByteArray.empty) 16 Try.underlying41 hi9 hz9 hs9 hb9 rfl (.slice Al _ cl) _ _ rfl hownl A3 _ cap3 _ rfl (Reads.of_own hown3) (strVals_one _) ?_ ?_ ?_ ?_)
                · unfold maxLen; omega
                · omega
                · exact hB3.size
                intro v' w4 hown4 hg4
                have hc4 := cutAt_grown0 hc3 hownl hg4
                have hB4 : Below w1.heap.size w1 w4 := hB3.grown hg4 hB3.size fun k hk => (hownl.lt k hk).1
                rw [← strVals_append, ← List.length_append] at hown4
                have HO4 := Lib.hid hown4
                clear hown4 hg4 hownl hown3 hc3
                go_wp2
                go_roundw
                case rel =>
                  have hrel3 : Fed3 w1.heap.size w1.heap.size w1 ps (k + 1) v' (al ++ y) w4 := ⟨l ++ st.1, st.2, by rw [ByteArray.data_append, Array.toList_append]; exact HM.out, by rw [ByteArray.size_append, HAS.out, HTK.out], HO4.out, hc4, hB4⟩
                  first
                    | exact ⟨k + 1, al ++ y, by omega, by go_num, rfl, hrel3⟩
                    | ((repeat apply Exists.intro); exact ⟨⟨k + 1, al ++ y, by omega, by go_num, rfl, hrel3⟩, rfl⟩)
                case measure => simp [intOf]; omega
              · obtain rfl : k = ps.length := by omega
                go_wp2_with fail
                refine (end_any w1.heap.size w1.heap.size o _ hcut).mono ?_
                rintro e w4 ⟨rfl, hc4, hf4⟩
                obtain ⟨_, A4, cap4, hblk4, _⟩ := hcut
                have hown4 := own_fr hown hblk4 hf4
                have hB4 := hBr.trans hf4.below
                clear hown hblk4 hf4
                have hal : al.size ≤ 3000 := by omega
                have hcl := cutL_length al.data.toList
                rw [bytes_length] at hcl
                by_cases h0 : o = []
                · subst h0
                  have HE : Hid (cutL al.data.toList = l) := by show finL _ = _; rw [hfd]; rfl
                  rw [HE.out] at hcl
                  obtain ⟨cap6, hcap6⟩ : ∃ c, c = cl := ⟨_, rfl⟩
                  subst hcap6
                  clear hfd has
                  go_wp2_with fail
                  refine (cut_any al _ (by omega)).mono ?_
                  rintro e w5 ⟨v5, rfl, ⟨A5, cap5, rfl, hown5⟩, hb5⟩
                  rw [HE.out] at hown5
                  rw [HE.out]
                  have hsame := same_any _ A5 cap6 cap5 _ _ l w5 ((TextsAt.of_own hown4).below hb5) (TextsAt.of_own hown5) (by omega)
                  have hc5 := cutAt_below hc4 hb5
                  have hB5 := hB4.trans (hb5.mono hB4.size)
                  go_wp2_with fail
                  (with_reducible refine hsame.mono ?_)
                  rintro e w6 ⟨rfl, n6, rfl⟩
                  clear hsame
                  go_wp2
                  go_roundw
                  case rel => exact ⟨i + 1, by omega, by go_num, cutAt_drewN hc5 _, below_drewN hB5 _⟩
                  case measure => simp [intOf]; omega
                · have HE : Hid (cutL al.data.toList = l ++ [o]) := by show finL _ = _; rw [hfd]; exact fin_some (st := (l, o)) h0
                  rw [HE.out] at hcl
                  have h1 : (o.toArray.toList.isEmpty) = false := by simpa using h0
                  have h2 : o.isEmpty = false := by simpa using h0
                  clear h0 hfd has
                  go_wp2_with (at_builtin; refine wpList_append_own _ rfl (.tmp 52) (.tmp 54) 41 rfl w1.heap.size 9 i9 (.string ByteArray.empty) 1 16 Try.underlying41 hi9 hz9 hs9 hb9 rfl (by decide) (.slice Al _ cl) _ _ rfl (World.ownsRow.alloc hown4 _) ⟨w4.heap.size, 0, none⟩ 1 1 [_] rfl rfl (cell_new_of _ _ _ _ rfl) ?_ ?_ ?_ ?_ ?_)
                  · first | rfl | (intro u hu; have := List.mem_singleton.1 hu; subst this; rfl)
                  · unfold maxLen; omega
                  · omega
                  · have := hB4.size; first | omega | (simp; omega)
                  intro v' w7 hown7 hg7 _
                  obtain ⟨A7, cap6, rfl, hown8⟩ := texts_snoc hown7
                  have hc4 := cutAt_grown hc4 hown4 hg7
                  have hB7 : Below w1.heap.size w1 w7 := (hB4.alloc hB4.size _).grown hg7 (by have := hB4.size; simp; omega) fun k hk => (hown4.lt k hk).1
                  clear hown7 hg7 hown4
                  go_wp2_with fail
                  refine (cut_any al _ (by omega)).mono ?_
                  rintro e w5 ⟨v5, rfl, ⟨A5, cap5, rfl, hown5⟩, hb5⟩
                  rw [HE.out] at hown5
                  rw [HE.out]
                  have hsame := same_any _ A5 cap6 cap5 _ _ (l ++ [o]) w5 ((TextsAt.of_own hown8).below hb5) (TextsAt.of_own hown5) (by omega)
                  rw [List.length_append, List.length_singleton] at hsame
                  have hc5 := cutAt_below hc4 hb5
                  have hB5 := hB7.trans (hb5.mono hB7.size)
                  go_wp2_with fail
                  (with_reducible refine hsame.mono ?_)
                  rintro e w6 ⟨rfl, n6, rfl⟩
                  clear hsame
                  go_wp2
                  go_roundw
                  case rel => exact ⟨i + 1, by omega, by go_num, cutAt_drewN hc5 _, below_drewN hB5 _⟩
                  case measure => simp [intOf]; omega
          · go_wp2
            go_ret
            exact ⟨rfl, hb1.trans (hB.mono hb1.size)⟩
  · go_wp2
    go_ret
    exact ⟨rfl, hb1⟩

set_option maxRecDepth 100000 in
theorem lifted (os : Os) (started : os.Started) (H : Type) (enc : TypeId × Value → H) :
    ReturnsInHanded {} Try.checked os 9 .any (Rows.cutFeedsSpec.pre6 enc Try.prog Try.f9 Rows.cutFeedsRow.domain false) (Rows.cutFeedsSpec.post enc Try.prog Try.f9 false true false false) := by
  refine returnsInHanded_of_change_sized (C := Try.checked) own started (by kernel_rfl) Try.func9
    (ChangeSpec.witness6 (enc := enc) (C := Try.checked) false ⟨#[], #[.slice none 0 0], []⟩ 8 (by kernel_rfl) (by kernel_rfl) (by kernel_rfl) (by kernel_rfl)) ?_
  intro W base args ds gs before hval0 hW _ hsz0 _
  have hsz : (DataW.weightsEach Try.prog (Try.f9.params.toList ++ Rows.cutFeedsSpec.plain.varTypes Try.prog) (ds ++ gs)).all (· ≤ reachBytes) = true := hsz0
  clear hsz0
  have hval : ∀ (j : Nat) t v, Try.f9.params[j]? = some t → args[j]? = some v → Value.okWide Try.prog W .any base t v := hval0
  have hW' := hW
  obtain ⟨p, q, hA0, hV, rfl, _, _⟩ := hW
  have hA : DataW.TrodAll enc Try.prog W 0 (fun _ => true) true Try.f9.params.toList args.toList ds p := hA0
  rw [Try.params9] at hA hval hsz
  obtain ⟨v0, d0, rfl, rfl, h0⟩ := trodAll_one hA
  obtain ⟨rfl, rfl⟩ := trodVars_none hV
  obtain ⟨a0, len, cap, rfl⟩ := okWide_slice Try.underlying41 (hval 0 41 v0 rfl rfl)
  have h0k := h0
  obtain ⟨fuel, hf⟩ := h0
  clear hA0 hval0
  simp only [List.append_nil] at hW'
  have hlt : ∀ x ∈ p, x.block < W.heap.size := fun x hx => by simpa using hW'.lt x hx
  have fin : ∀ W' : World, Below W.heap.size W W' → Rows.cutFeedsSpec.post enc Try.checked.prog Try.f9 false true false false W #[.slice a0 len cap] (.bool true) W' := by
    intro W' hnx
    refine ⟨_, _, _, [] ++ [], p, [], hW', ?_, ?_, rfl, hnx.frame _, fun h => by cases h⟩
    · exact trodAll_mk1 (shut_bool Try.underlying4 true)
    · exact trodAll_mk1 (Below.trod laidOut (by kernel_rfl) (of_decide_eq_true (by kernel_rfl)) h0k hnx hlt)
  rcases open_strings Try.underlying41 Try.underlying9 cells9 hf with ⟨hcs, hx⟩ | ⟨a, len', cap', ss, hcs, _, hl, hm, hz, hx, hcell, hws⟩
  · simp [Value.cells] at hcs
    obtain ⟨rfl, rfl, rfl⟩ := hcs
    refine (walk none 0 [] W (fun k h => absurd h (by simp)) (fun s hs => absurd hs (by simp)) (by simp)).mono fun e W' ⟨he, hb⟩ => ?_
    subst he
    exact ⟨_, rfl, fin W' hb⟩
  · simp [Value.cells] at hcs
    obtain ⟨rfl, rfl, rfl⟩ := hcs
    simp only [Prod.mk.injEq] at hx
    obtain ⟨rfl, hp⟩ := hx
    simp only [if_true] at hz
    have hps : (ss.take len).length = len := by simp; omega
    have hsize : ∀ s ∈ ss.take len, s.size ≤ 140737488355328 := by
      intro s hs
      have hmem : s.data.toList.length ∈ DataW.weights Try.prog 41 (DataW.slice (H := H) (strs (ss.take len)) (strs (ss.drop len))) := by
        simp only [DataW.weights, Try.underlying41]
        exact List.mem_cons_of_mem _ (List.mem_append.2 (Or.inl (strs_weights 9 _ s hs)))
      have hall := List.all_eq_true.1 hsz _ (DataW.weights_mem_each (j := 0) (t := 41) rfl rfl _ hmem)
      have h2 : s.data.toList.length ≤ reachBytes := by simpa using hall
      have h3 := reachBytes_lt
      rw [bytes_length] at h2
      omega
    have hcells : ∀ k (h : k < (ss.take len).length), ∃ b off, some a = some ⟨b, off, none⟩ ∧ b < W.heap.size ∧ W.cell? ⟨b, off + k, none⟩ = some (.string (ss.take len)[k]) := by
      intro k hk
      rw [hps] at hk
      have h0c := hcell 0 (by omega)
      obtain ⟨b, off, spot⟩ := a
      have hspot : spot = none := by simpa [Addr.add] using World.cell?_spot h0c
      subst hspot
      have hbW : b < W.heap.size := hlt (.cell b off) (by rw [hp]; exact MemPlace.mem_row.2 ⟨0, by omega, by simp⟩)
      refine ⟨b, off, rfl, hbW, ?_⟩
      rw [← add_plain, hcell k (by omega)]
      congr 2
      rw [List.getElem_take, List.getD_eq_getElem?_getD, List.getElem?_eq_getElem (by omega)]; rfl
    have hw := walk (some a) cap (ss.take len) W hcells hsize (by rw [hps]; omega)
    rw [hps] at hw
    refine hw.mono fun e W' ⟨he, hb⟩ => ?_
    subst he
    exact ⟨_, rfl, fin W' hb⟩

theorem over : Rows.cutFeedsRow.holds Try.pinned (OpenSpec.ofChange Rows.cutFeedsSpec) :=
  OpenClaim.holds_of_wide 9 Try.f9 rfl rfl rfl rfl rfl rfl rfl ⟨rfl, rfl, rfl, rfl, rfl⟩ rfl rfl rfl rfl rfl (by kernel_rfl) Try.func9 (by kernel_rfl)
    (of_decide_eq_true (by kernel_rfl)) (by unfold Func.isWrapper; first | (rw [if_pos (by decide +kernel)]; kernel_rfl) | (rw [if_neg (by decide +kernel)]; exact ⟨rfl, rfl⟩))
    (fun os started H enc _ => lifted os started H enc)

/-- The statement. -/
theorem proved : Rows.CutFeedsSaid :=
  over
#print axioms proved
end Go.Proofs.Ytackgamdjeidmaa.cutFeeds

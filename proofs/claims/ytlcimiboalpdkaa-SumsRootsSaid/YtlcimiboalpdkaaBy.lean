/- The walk over the reference's By. -/
import Derived.Test.YtlcimiboalpdkaaRnd
namespace Go.Proofs.Ytlcimiboalpdkaa
open Go.RowKit

theorem u64_news {w : World} {g : Nat} {L : List Nat} (h : U64At w g L) (o m : Nat) (hm : o + m ≤ L.length) : ∀ j u, (u64s ((L.drop o).take m))[j]? = some u → w.cell? ((⟨g, o, none⟩ : Addr).add j) = some u := by
  intro j u hu
  have hj : j < m := by
    have := (List.getElem?_eq_some_iff.1 hu).1
    rw [u64s_length, List.length_take] at this
    omega
  have e : (⟨g, o, none⟩ : Addr).add j = ⟨g, o + j, none⟩ := by cases j <;> simp [Addr.add]
  rw [e, h.cell (o + j) (by omega), ← hu]
  simp [u64s, List.getD, List.getElem?_take, hj]
  rw [List.getElem?_eq_getElem (by omega)]
  rfl

theorem u64_new (w : World) (L : List Nat) : U64At (w.alloc (.cells (u64s L).toArray 41)) w.heap.size L := by
  have hb : Blk (w.alloc (.cells (u64s L).toArray 41)) w.heap.size 41 (u64s L).toArray := Blk.new w 41 _
  refine ⟨hb.lt, fun j hj => ?_, fun j => hb.frozen j⟩
  rw [hb.cell j]
  simp [u64s, List.getD, hj]
theorem regs_lt {r : Regs} (h : r.Ok) : Lt32 r.list := Lt32.of_mem fun x hx => by
  obtain ⟨a, b, c, d, e, f, g, i⟩ := r
  simp only [Regs.list, List.mem_cons, List.not_mem_nil, or_false] at hx
  rcases hx with rfl | rfl | rfl | rfl | rfl | rfl | rfl | rfl
  · exact h.a
  · exact h.b
  · exact h.c
  · exact h.d
  · exact h.e
  · exact h.f
  · exact h.g
  · exact h.h
def outS (H : List Nat) (m : Nat) : ByteArray := ⟨((List.range m).map fun k => UInt8.ofNat (outB H k)).toArray⟩
theorem outS_size (H : List Nat) (m : Nat) : (outS H m).size = m := by
  show ((List.range m).map fun k => UInt8.ofNat (outB H k)).length = m
  simp
theorem outS_succ (H : List Nat) (m : Nat) : outS H m ++ ByteArray.mk #[UInt8.ofNat (outB H m)] = outS H (m + 1) := by
  apply ByteArray.ext
  apply Array.toList_inj.1
  simp [outS, List.range_succ]
theorem quiet_plus {P : Program} {f : FuncId} {args : Array Value} {w : World} {X x : Nat} {v : Value}
    (h : Calls P f args (w.drewN (X + x)) fun e w' => e = .returned v ∧ w.drewN (X + x) = w') : Calls P f args (w.drewN (X + x)) fun e w'' => e = .returned v ∧ ∃ n, w'' = w.drewN (X + n) :=
  h.mono fun _ _ ⟨he, hm⟩ => ⟨he, x, hm.symm⟩

set_option maxHeartbeats 8000000 in
set_option maxRecDepth 100000 in
theorem by_any (s : ByteArray) (w : World) (hs : s.size ≤ 6000) (g1 c1 g2 c2 n : Nat) (F K A : List Nat) (hF : F.length = 8) (hK : K.length = 64) (fF : Lt32 F) (fK : Lt32 K) (r1 : U64At w g1 F) (r2 : U64At w g2 K)
    (hAe : wordsL s.data.toList = A) (hn : A.length = 16 * n) (hn0 : 0 < n) (hn2 : n < 2000) (hA : Lt32 A) :
    Calls Try.prog 12 #[.string s, .slice (some ⟨g1, 0, none⟩) 8 c1, .slice (some ⟨g2, 0, none⟩) 64 c2] w fun e w' => e = .returned (.string ⟨(outL (refHs A K F n)).toArray⟩) ∧ w.grownBy w' none := by
  obtain ⟨i41, hi, hz, hsz, hb⟩ := info_parts Try.info41
  have R1 := Lib.hid r1
  have R2 := Lib.hid r2
  have FF := Lib.hid fF
  have FK := Lib.hid fK
  have FA := Lib.hid hA
  have NF := Lib.hid hF
  have NK := Lib.hid hK
  have NA := Lib.hid hn
  have WN : Hid (∀ u, _) := fun u => words_any s u hs
  rw [hAe] at WN
  clear r1 r2 fF fK hA hF hK hAe hn
  go_enter Try.func12, Try.ntmps12
  go_wp2_with (at_builtin; refine wpList_append_own _ rfl (.tmp 22) (.tmp 23) 25 rfl w.heap.size 41 i41 (.int .u64 0) 1 8 Try.underlying25 hi hz hsz hb rfl (by decide) (.slice none 0 0) 0 [] rfl (World.ownsRow_nil _ _ _ _) ⟨g1, 0, none⟩ 8 c1 (u64s F) rfl ?_ ?_ ?_ ?_ ?_ ?_ ?_)
  · rw [u64s_length, NF.out]
  · have := u64_news R1.out 0 8 (by have := NF.out; omega)
    rwa [List.drop_zero, List.take_of_length_le (Nat.le_of_eq NF.out)] at this
  · exact u64s_one _
  · unfold maxLen; omega
  · omega
  · exact Nat.le_refl _
  intro v0 w1 hown1 hg1 _
  obtain ⟨gs, cs, rfl, hgs, -, hcs8, hcsm, us⟩ := own_open hown1 (by decide)
  have hg1' : w.grownBy w1 none := hg1
  have U1 := Lib.hid us
  clear hown1 hg1 us
  go_wp2_with fail
  refine (WN.out _).mono ?_
  rintro e w2 ⟨va, rfl, hown2, hg2⟩
  obtain ⟨ga, ca, rfl, hga, -, hcal, hcam, ua⟩ := own_open hown2 (by have := NA.out; omega)
  have hg2' : w.grownBy w2 none := hg1'.trans hg2
  have us2 : U64At w2 gs F := U1.out.grown hg2 (by simp)
  have hsa : gs < ga := Nat.lt_of_lt_of_le U1.out.lt hga
  have hgas : ga ≠ gs := by omega
  have hAl : A.length = 16 * n := NA.out
  rw [hAl] at hcal
  have UA0 := Lib.hid ua
  have US0 := Lib.hid us2
  clear hown2 hg2 ua us2 U1 hg1' hga WN
  go_wp2_with fail
  go_loopw [9, 10, 11, 12, 13, 14, 15, 16, 17, 18] (fun i _ _ _ _ _ _ _ _ _ wr => ∃ k : Nat, k ≤ n ∧ i = .int .i64 (16 * k) ∧ U64At wr gs (refHs A K F k) ∧ U64At wr ga A ∧ w.grownBy wr none) (fun i _ _ _ _ _ _ _ _ _ _ => 16 * n - (intOf i).toNat)
  case atStart => exact ⟨0, by omega, rfl, US0.out, UA0.out, hg2'⟩
  case round =>
    obtain ⟨k, hk, rfl, us, ua, hg⟩ := hrel
    obtain ⟨W0, rfl⟩ : ∃ W0, W0 = wr := ⟨_, rfl⟩
    have US := Lib.hid us
    have UA := Lib.hid ua
    clear us ua
    by_cases hlt : k < n
    · have z0 : (0 : Int) ≤ 16 * (k : Int) := by omega
      have z1 : (16 * (k : Int)).toNat = 16 * k := by omega
      have z2 : (16 * (k : Int) + 16).toNat = 16 * k + 16 := by omega
      have z3 : IntKind.i64.wrap (16 * (k : Int) + 16) = 16 * (k : Int) + 16 := Go.IntWalk.i64_in _ (by omega)
      have z4 : 16 * k + 16 - 16 * k = 16 := by omega
      have z5 : 16 * k + 16 ≤ ca := by omega
      have z6 : ¬ 16 * k = ca := by omega
      have z7 : ¬ ca = 16 * k := by omega
      go_wp2_with (at_builtin; refine wpList_append_own _ rfl (.tmp 33) (.tmp 38) 25 rfl W0.heap.size 41 i41 (.int .u64 0) 1 8 Try.underlying25 hi hz hsz hb rfl (by decide) (.slice none 0 0) 0 [] rfl (World.ownsRow_nil _ _ _ _) ⟨ga, 16 * k, none⟩ 16 (ca - 16 * k) (u64s (blockW A k)) ?_ ?_ ?_ ?_ ?_ ?_ ?_ ?_)
      · rfl
      · rw [u64s_length, blockW_length (by have := NA.out; omega)]
      · exact u64_news UA.out (16 * k) 16 (by have := NA.out; omega)
      · exact u64s_one _
      · unfold maxLen; omega
      · omega
      · exact Nat.le_refl _
      intro v3 w3 hown3 hg3 _
      have hg3' : W0.grownBy w3 none := hg3
      have UA3 := Lib.hid (UA.out.grown hg3' (by simp))
      have US3 := Lib.hid (US.out.grown hg3' (by simp))
      have hG3 : w.grownBy w3 none := hg.trans hg3'
      have HWL := Lib.hid (blockW_length (A := A) (i := k) (by have := NA.out; omega))
      have HWF := Lib.hid (blockW_lt FA.out k)
      obtain ⟨W, hW⟩ : ∃ W, W = blockW A k := ⟨_, rfl⟩
      rw [← hW] at hown3 HWL HWF
      have HW := Lib.hid hW
      clear hW hg3 z0 z1 z2 z3 z4 z5 z6 z7
      go_wp2_with fail
      go_loopw [10, 11] (fun v i wx => ∃ (t : Nat) (v' : Value), t ≤ 48 ∧ i = .int .i64 (t + 16) ∧ v' = v ∧ wx.ownsRow W0.heap.size 41 1 v' (16 + t) (u64s (expL W t)) ∧ W0.grownBy wx none) (fun _ i _ => 64 - (intOf i).toNat)
      case atStart => exact ⟨0, _, by omega, rfl, rfl, hown3, hg3'⟩
      case round =>
        obtain ⟨t, v, ht, rfl, rfl, hown, hgx⟩ := hrel
        by_cases hlt2 : t < 48
        · obtain ⟨gw, cw, rfl, hgw, -, hcw, hcwm, uw⟩ := own_open hown (by omega)
          have hEl : (expL W t).length = 16 + t := by rw [expL_length, HWL.out]
          have hEF := expL_lt HWF.out t
          have d0 := uw.cell t (by omega)
          have d1 := uw.cell (t + 1) (by omega)
          have d9 := uw.cell (t + 9) (by omega)
          have d14 := uw.cell (t + 14) (by omega)
          have f0 := hEF t
          have f1 := hEF (t + 1)
          have f9 := hEF (t + 9)
          have f14 := hEF (t + 14)
          have HE : Hid (expL W (t + 1) = expL W t ++ [expV (expL W t) t]) := rfl
          unfold expV at HE
          obtain ⟨y1, hy1⟩ : ∃ y, y = spread3 ((expL W t).getD (t + 1) 0) 7 18 3 := ⟨_, rfl⟩
          obtain ⟨y2, hy2⟩ : ∃ y, y = spread3 ((expL W t).getD (t + 14) 0) 17 19 10 := ⟨_, rfl⟩
          have g1' : y1 < 4294967296 := by rw [hy1]; exact spread3_lt f1 (by decide) (by decide)
          have g2' : y2 < 4294967296 := by rw [hy2]; exact spread3_lt f14 (by decide) (by decide)
          rw [← hy1, ← hy2] at HE
          have hy1' := hy1.symm
          have hy2' := hy2.symm
          clear hy1 hy2
          generalize (expL W t).getD t 0 = x0 at *
          generalize (expL W t).getD (t + 1) 0 = x1 at *
          generalize (expL W t).getD (t + 9) 0 = x9 at *
          generalize (expL W t).getD (t + 14) 0 = x14 at *
          obtain ⟨a1, ha1⟩ : ∃ a, a = x0 + y1 := ⟨_, rfl⟩
          obtain ⟨a2, ha2⟩ : ∃ a, a = a1 + x9 := ⟨_, rfl⟩
          obtain ⟨a3, ha3⟩ : ∃ a, a = a2 + y2 := ⟨_, rfl⟩
          obtain ⟨e, he⟩ : ∃ e, e = a3 % 4294967296 := ⟨_, rfl⟩
          have L1 : Hid (∀ u, _) := fun u => low_any a3 u
          rw [← he] at L1
          rw [← ha1, ← ha2, ← ha3, ← he] at HE
          have e1 : IntKind.u64.wrap ((x0 : Int) + (y1 : Int)) = (a1 : Int) := by rw [Go.IntWalk.u64_in _ (by omega)]; omega
          have e2 : IntKind.u64.wrap ((a1 : Int) + (x9 : Int)) = (a2 : Int) := by rw [Go.IntWalk.u64_in _ (by omega)]; omega
          have e3 : IntKind.u64.wrap ((a2 : Int) + (y2 : Int)) = (a3 : Int) := by rw [Go.IntWalk.u64_in _ (by omega)]; omega
          have lt16 : (t : Int) < 48 := by omega
          have t0 : (0 : Int) ≤ (t : Int) := by omega
          have k0 : IntKind.i64.wrap ((t : Int) + 16 - 16) = (t : Int) := by rw [Go.IntWalk.i64_in _ (by omega)]; omega
          have k1 : IntKind.i64.wrap ((t : Int) + 16 - 15) = (t : Int) + 1 := by rw [Go.IntWalk.i64_in _ (by omega)]; omega
          have k9 : IntKind.i64.wrap ((t : Int) + 16 - 7) = (t : Int) + 9 := by rw [Go.IntWalk.i64_in _ (by omega)]; omega
          have k14 : IntKind.i64.wrap ((t : Int) + 16 - 2) = (t : Int) + 14 := by rw [Go.IntWalk.i64_in _ (by omega)]; omega
          have k00 : IntKind.i64.wrap (t : Int) = (t : Int) := Go.IntWalk.i64_in _ (by omega)
          have t1 : ((t : Int) + 1).toNat = t + 1 := by omega
          have t9 : ((t : Int) + 9).toNat = t + 9 := by omega
          have t14 : ((t : Int) + 14).toNat = t + 14 := by omega
          have n1 : (0 : Int) ≤ (t : Int) + 1 := by omega
          have n9 : (0 : Int) ≤ (t : Int) + 9 := by omega
          have n14 : (0 : Int) ≤ (t : Int) + 14 := by omega
          have b0 : (t : Int) < 16 + (t : Int) := by omega
          have b1 : (t : Int) + 1 < 16 + (t : Int) := by omega
          have b9 : (t : Int) + 9 < 16 + (t : Int) := by omega
          have b14 : (t : Int) + 14 < 16 + (t : Int) := by omega
          have HEL := Lib.hid hEl
          clear ha1 ha2 ha3 he hEl hEF uw
          go_wp2_with fail
          refine wp_region_move_quiet_tail 27 (by kernel_rfl) (by kernel_rfl) _ (.tmp 10) rfl rfl rfl (fun _ _ _ _ h => h) ?_
          simp only [List.take_succ_cons, List.take_zero, List.drop_succ_cons, List.drop_zero]
          repeat (quiet_step ((first | (go_at_call 26; exact quiet_left (small_any _ _ _ _ (by first | exact f1 | exact f14) (by decide) (by decide) (by decide) _)) | (go_at_call 25; exact quiet_left (L1.out _)))))
          refine wpQuiet_nil ?_
          intro m
          have KP : (wr.drewN m).ownsRow W0.heap.size 41 1 (.slice (some ⟨gw, 0, none⟩) (16 + t) cw) (16 + t) (u64s (expL W t)) ∧ W0.grownBy (wr.drewN m) none := ⟨hown, ⟨hgx.os, hgx.tape, hgx.output, hgx.size, hgx.block⟩⟩
          generalize wr.drewN m = W2 at *
          clear hown hgx d0 d1 d9 d14 k0 k1 k9 k14 k00 t0 t1 t9 t14 n1 n9 n14 b0 b1 b9 b14 e1 e2 e3 hy1' hy2'
          go_wp2_with (at_builtin; refine wpList_append_own _ rfl (.tmp 44) (.tmp 71) 25 rfl W0.heap.size 41 i41 (.int .u64 0) 1 8 Try.underlying25 hi hz hsz hb rfl (by decide) (.slice (some ⟨gw, 0, none⟩) (16 + t) cw) _ _ rfl (World.ownsRow.alloc KP.1 _) ⟨W2.heap.size, 0, none⟩ 1 1 [_] rfl rfl (cell_new_of _ _ _ _ rfl) ?_ ?_ ?_ ?_ ?_)
          · intro u hu; have := List.mem_singleton.1 hu; subst this; rfl
          · unfold maxLen; omega
          · omega
          · have := KP.2.size; simp; omega
          intro v' w4 hown4 hg4 _
          have hg5 := grown_own KP.1 (grown_alloc KP.2 _) hg4
          have HO : Hid (w4.ownsRow W0.heap.size 41 1 v' (16 + (t + 1)) (u64s (expL W (t + 1)))) := by
            show World.ownsRow _ _ _ _ _ _ _
            rw [HE.out, u64s_append]; exact hown4
          clear hown4 hg4 KP
          go_wp2_with fail
          refine ⟨⟨t + 1, _, by omega, congrArg (Value.int .i64) (by omega), rfl, HO.out, hg5⟩, by simp only [intOf]; omega⟩
        · obtain ⟨W5, rfl⟩ : ∃ W5, W5 = wr := ⟨_, rfl⟩
          have ht48 : t = 48 := by omega
          subst ht48
          obtain ⟨gw, cw, rfl, hgw, -, hcw, hcwm, uw⟩ := own_open hown (by omega)
          have UA5 := Lib.hid (UA.out.grown hgx (by simp))
          have us5 := US.out.grown hgx (by simp)
          have hG5 : w.grownBy W5 none := hg.trans hgx
          have NE : Hid ((expL W 48).length = 64) := by show _ = _; rw [expL_length, HWL.out]
          have FE : Hid (Lt32 (expL W 48)) := expL_lt HWF.out 48
          have NH : Hid ((refHs A K F k).length = 8) := by show _ = _; rw [refHs_length, NF.out]
          have FH : Hid (Lt32 (refHs A K F k)) := refHs_lt FF.out A K k
          have HK : Hid (refHs A K F (k + 1) = addH (refRounds (expL W 48) K (regsOf (refHs A K F k)) 64).list 8 (refHs A K F k)) := by
            show _ = _
            rw [HW.out]; rfl
          generalize expL W 48 = E at *
          have hsa' : gs < W0.heap.size := US.out.lt
          have haa' : ga < W0.heap.size := UA.out.lt
          generalize refHs A K F k = H at *
          have UW5 := Lib.hid uw
          have US5 := Lib.hid us5
          clear hown uw us5 HWL HWF HW UA US UA3 US3 hown3 hg3'
          go_wp2_with (at_builtin; refine wpList_append_own _ rfl (.tmp 73) (.tmp 74) 25 rfl W5.heap.size 41 i41 (.int .u64 0) 1 8 Try.underlying25 hi hz hsz hb rfl (by decide) (.slice none 0 0) 0 [] rfl (World.ownsRow_nil _ _ _ _) ⟨gs, 0, none⟩ 8 cs (u64s H) rfl ?_ ?_ ?_ ?_ ?_ ?_ ?_)
          · rw [u64s_length, NH.out]
          · have := u64_news US5.out 0 8 (by have := NH.out; omega)
            rwa [List.drop_zero, List.take_of_length_le (Nat.le_of_eq NH.out)] at this
          · exact u64s_one _
          · unfold maxLen; omega
          · omega
          · exact Nat.le_refl _
          intro v6 W6 hown6 hg6 _
          obtain ⟨gv, cv, rfl, hgv, -, hcv, hcvm, uv⟩ := own_open hown6 (by decide)
          have hg6' : W5.grownBy W6 none := hg6
          have UA6 := Lib.hid (UA5.out.grown hg6' (by simp))
          have US6 := Lib.hid (US5.out.grown hg6' (by simp))
          have UW6 := Lib.hid (UW5.out.grown hg6' (by simp))
          have hG6 : w.grownBy W6 none := hG5.trans hg6'
          have UK6 := Lib.hid (R2.out.grown hG6 (by simp))
          have hr0 : (regsOf H).list = H := regsOf_list NH.out
          have hok0 : (regsOf H).Ok := regsOf_ok FH.out
          obtain ⟨r0, hr00⟩ : ∃ r, r = regsOf H := ⟨_, rfl⟩
          rw [← hr00] at hr0 hok0 HK
          rw [← hr0] at uv
          have UV6 := Lib.hid uv
          have HR0 := Lib.hid hr0
          have hgsv : gs < gv := by have := hgx.size; omega
          have hsz6 : gs < W6.heap.size := US6.out.lt
          clear hown6 hg6 uv hr0 hr00 UA5 US5 UW5
          go_wp2_with fail
          go_loopw [12, 13] (fun v i wy => ∃ (t : Nat) (r : Regs) (g cap : Nat), t ≤ 64 ∧ i = .int .i64 t ∧ v = .slice (some ⟨g, 0, none⟩) 8 cap ∧ gs < g ∧ U64At wy g r.list ∧ refRounds E K r0 t = r ∧ r.Ok ∧ W6.grownBy wy none) (fun _ i _ => 64 - (intOf i).toNat)
          case atStart => exact ⟨0, r0, _, _, by omega, rfl, rfl, hgsv, UV6.out, rfl, hok0, ⟨rfl, rfl, rfl, Nat.le_refl _, fun _ _ _ => rfl⟩⟩
          case round =>
            obtain ⟨t, r, gr, cr, ht, rfl, rfl, hgr, ur, hrt, hrok, hgy⟩ := hrel
            by_cases hlt3 : t < 64
            · have HRT : Hid (refRounds E K r0 (t + 1) = r.next (K.getD t 0) (E.getD t 0)) := by
                show _ = _
                rw [← hrt]; rfl
              have ck := (UK6.out.grown hgy (by simp)).cell t (by have := NK.out; omega)
              have cw' := (UW6.out.grown hgy (by simp)).cell t (by have := NE.out; omega)
              have lk := FK.out t
              have lw := FE.out t
              generalize K.getD t 0 = kt at *
              generalize E.getD t 0 = wt at *
              have HOKN : Hid ((r.next kt wt).Ok) := hrok.next _ _
              obtain ⟨a, b, c, d, e, f, g, h⟩ := r
              obtain ⟨la, lb, lc, ld, le, lf, lg, lh⟩ := hrok
              simp only at la lb lc ld le lf lg lh
              have v0 := ur.cell 0 (by decide : 0 < 8)
              have v1 := ur.cell 1 (by decide : 1 < 8)
              have v2 := ur.cell 2 (by decide : 2 < 8)
              have v3 := ur.cell 3 (by decide : 3 < 8)
              have v4 := ur.cell 4 (by decide : 4 < 8)
              have v5 := ur.cell 5 (by decide : 5 < 8)
              have v6 := ur.cell 6 (by decide : 6 < 8)
              have v7 := ur.cell 7 (by decide : 7 < 8)
              obtain ⟨cf, ne, cg, ch, ab, ac, bc, o1, mj, t1, t2, p1, p2, p3, one, two, s1, s2, na, nb, ⟨q1, q2, q3, q4⟩, ⟨q5, q6, q7, q8, q9⟩, ⟨q10, q11, q12, q13, q14⟩, ⟨q15, q16, q17, q18, q19⟩, ⟨q20, q21, q22, q23⟩, hnl⟩ := round_facts a b c d e f g h kt wt la lb lc ld le lf lg lh lk lw
              have HNL := Lib.hid hnl
              have q24 : (s1 : Int) % 4294967296 = (na : Int) := by omega
              have q25 : (s2 : Int) % 4294967296 = (nb : Int) := by omega
              have tz : (0 : Int) ≤ (t : Int) := by omega
              have tl : (t : Int) < 64 := by omega
              clear ur hrt hnl
              change wr.cell? ⟨gr, 0, none⟩ = some (.int .u64 (a : Nat)) at v0
              change wr.cell? ⟨gr, 1, none⟩ = some (.int .u64 (b : Nat)) at v1
              change wr.cell? ⟨gr, 2, none⟩ = some (.int .u64 (c : Nat)) at v2
              change wr.cell? ⟨gr, 3, none⟩ = some (.int .u64 (d : Nat)) at v3
              change wr.cell? ⟨gr, 4, none⟩ = some (.int .u64 (e : Nat)) at v4
              change wr.cell? ⟨gr, 5, none⟩ = some (.int .u64 (f : Nat)) at v5
              change wr.cell? ⟨gr, 6, none⟩ = some (.int .u64 (g : Nat)) at v6
              change wr.cell? ⟨gr, 7, none⟩ = some (.int .u64 (h : Nat)) at v7
              go_wp2_with fail
              go_quiet (fail)
              go_wp2_with fail
              go_quiet (fail)
              go_wp2_with fail
              go_quiet ((go_at_call 27; exact quiet_plus (great_any _ _ _ _ le (by decide) (by decide) (by decide) _)))
              go_wp2_with fail
              refine (great_any a 2 13 22 la (by decide) (by decide) (by decide) _).mono ?_
              rintro e' w' ⟨rfl, rfl⟩
              rw [show turn3 a (2 : Int).toNat (13 : Int).toNat (22 : Int).toNat = t2 from q15]
              go_wp2_with fail
              refine wp_region_quiet_tail 28 (by kernel_rfl) (by kernel_rfl) ?_
              simp only [List.take_succ_cons, List.take_zero, List.drop_succ_cons, List.drop_zero]
              repeat (quiet_step ((go_at_call 25; exact quiet_plus (low_any _ _))))
              refine wpQuiet_nil ?_
              intro m
              go_wp2_with fail
              have hgn : ∀ X, W6.grownBy (wr.drewN X) none := fun X => ⟨hgy.os, hgy.tape, hgy.output, hgy.size, hgy.block⟩
              refine ⟨⟨t + 1, (⟨a, b, c, d, e, f, g, h⟩ : Regs).next kt wt, wr.heap.size, 8, by omega, rfl, rfl, by have := hgy.size; omega, ?_, HRT.out, HOKN.out, (hgn _).trans (World.grownBy_alloc _ _ _)⟩, by simp only [intOf]; omega⟩
              rw [HNL.out]
              exact u64_new (wr.drewN _) [na, a, b, c, nb, e, f, g]
            · obtain ⟨W7, rfl⟩ : ∃ W7, W7 = wr := ⟨_, rfl⟩
              have ht64 : t = 64 := by omega
              subst ht64
              obtain ⟨rl, hrl⟩ : ∃ rl, rl = r.list := ⟨_, rfl⟩
              have hrll : rl.length = 8 := by rw [hrl]; rfl
              have hrlt : Lt32 rl := by rw [hrl]; exact regs_lt hrok
              rw [hrt, ← hrl] at HK
              rw [← hrl] at ur
              have UR7 := Lib.hid ur
              have US7 := Lib.hid (US6.out.grown hgy (by simp))
              have UA7 := Lib.hid (UA6.out.grown hgy (by simp))
              have hG7 : w.grownBy W7 none := hG6.trans hgy
              have NR := Lib.hid hrll
              have FR := Lib.hid hrlt
              have hne : gr ≠ gs := by omega
              clear ur hrt hrok hrl hrll hrlt UA6 US6 UW6 UK6 UV6
              go_wp2_with fail
              go_loopw [18] (fun i wz => ∃ j : Nat, j ≤ 8 ∧ i = .int .i64 j ∧ U64At wz gs (addH rl j H) ∧ W7.grownBy wz (some gs)) (fun i _ => 8 - (intOf i).toNat)
              case atStart => exact ⟨0, by omega, rfl, US7.out, ⟨rfl, rfl, rfl, Nat.le_refl _, fun _ _ _ => rfl⟩⟩
              case round =>
                obtain ⟨j, hj, rfl, usj, hgz⟩ := hrel
                by_cases hlt4 : j < 8
                · have cs1 := usj.cell j (by rw [addH_length, NH.out]; exact hlt4)
                  have cs2 := (UR7.out.grown hgz (by simpa using hne)).cell j (by rw [NR.out]; exact hlt4)
                  have fs1 := usj.free j
                  have ls1 := addH_lt FH.out rl j j
                  have ls2 := FR.out j
                  have HAD : Hid (addH rl (j + 1) H = (addH rl j H).set j (((addH rl j H).getD j 0 + rl.getD j 0) % 4294967296)) := rfl
                  have HUS := Lib.hid usj
                  generalize (addH rl j H).getD j 0 = x at *
                  generalize rl.getD j 0 = y at *
                  obtain ⟨q, hq⟩ : ∃ q, q = x + y := ⟨_, rfl⟩
                  obtain ⟨z, hz'⟩ : ∃ z, z = q % 4294967296 := ⟨_, rfl⟩
                  rw [← hq, ← hz'] at HAD
                  have e1 : IntKind.u64.wrap ((x : Int) + (y : Int)) = (q : Int) := by rw [Go.IntWalk.u64_in _ (by omega)]; omega
                  have e2 : q % 4294967296 = z := hz'.symm
                  have e3 : (q : Int) % 4294967296 = (z : Int) := by omega
                  have j0 : (0 : Int) ≤ (j : Int) := by omega
                  have j1 : (j : Int) < 8 := by omega
                  clear usj hq hz'
                  go_wp2_with fail
                  refine wp_region_quiet_tail 13 (by kernel_rfl) (by kernel_rfl) ?_
                  simp only [List.take_succ_cons, List.take_zero, List.drop_succ_cons, List.drop_zero]
                  repeat (quiet_step ((go_at_call 25; exact quiet_left (low_any _ _))))
                  refine wpQuiet_nil ?_
                  intro m
                  go_wp2_with fail
                  refine ⟨?_, ?_⟩
                  · (repeat apply Exists.intro)
                    refine ⟨⟨j + 1, by omega, rfl, ?_, ?_⟩, rfl⟩
                    · rw [HAD.out]
                      exact (HUS.out.drewN m).set j z (by rw [addH_length, NH.out]; exact hlt4)
                    · exact grown_set (grown_drewN hgz m) _ _
                  · show 8 - (intOf (.int .i64 ((j : Int) + 1))).toNat < 8 - (intOf (.int .i64 (j : Int))).toNat
                    simp only [intOf]; omega
                · have hj8 : j = 8 := by omega
                  subst hj8
                  have hGz : w.grownBy wr none := grown_via hG7 hgz (by omega)
                  have UAz := Lib.hid (UA7.out.grown hgz (by simpa using hgas))
                  have HUS := Lib.hid usj
                  clear usj
                  go_wp2_with fail
                  refine ⟨⟨k + 1, by omega, congrArg (Value.int .i64) (by omega), by rw [HK.out]; exact HUS.out, UAz.out, hGz⟩, by simp only [intOf]; omega⟩
    · have hkn : k = n := by omega
      subst hkn
      have NH : Hid ((refHs A K F k).length = 8) := by show _ = _; rw [refHs_length, NF.out]
      have FH : Hid (Lt32 (refHs A K F k)) := refHs_lt FF.out A K k
      obtain ⟨H, hH⟩ : ∃ H, H = refHs A K F k := ⟨_, rfl⟩
      rw [← hH] at NH FH US
      have HH := Lib.hid hH
      clear hH
      clear UA0 US0 UA hgas hsa hcal
      go_wp2_with fail
      go_loopw [19, 20, 21] (fun o i _ wq => ∃ p : Nat, p ≤ 8 ∧ i = .int .i64 p ∧ o = .string (outS H (4 * p)) ∧ W0.grownBy wq none) (fun _ i _ _ => 8 - (intOf i).toNat)
      case atStart => exact ⟨0, by omega, rfl, rfl, ⟨rfl, rfl, rfl, Nat.le_refl _, fun _ _ _ => rfl⟩⟩
      case round =>
        obtain ⟨p, hp, rfl, rfl, hgp⟩ := hrel
        obtain ⟨W8, rfl⟩ : ∃ W8, W8 = wr := ⟨_, rfl⟩
        have HS0 := outS_size H (4 * p)
        by_cases hlt5 : p < 8
        · obtain ⟨O, hO⟩ : ∃ O, O = outS H (4 * p) := ⟨_, rfl⟩
          rw [← hO]
          have HO := Lib.hid hO
          clear hO HS0
          go_wp2_with fail
          go_loopw [19, 21] (fun o d wq => ∃ q : Nat, q ≤ 4 ∧ d = .int .i64 (24 - 8 * (q : Int)) ∧ o = .string (outS H (4 * p + q)) ∧ W0.grownBy wq none) (fun _ d _ => ((intOf d) + 8).toNat)
          case atStart => exact ⟨0, by omega, rfl, by rw [HO.out]; rfl, hgp⟩
          case round =>
            obtain ⟨q, hq, rfl, rfl, hgq⟩ := hrel
            have HS1 := outS_size H (4 * p + q)
            have HS2 : Hid (outS H (4 * p + q) ++ ByteArray.mk #[UInt8.ofNat (outB H (4 * p + q))] = outS H (4 * p + (q + 1))) := outS_succ H (4 * p + q)
            obtain ⟨O1, hO1⟩ : ∃ O, O = outS H (4 * p + q) := ⟨_, rfl⟩
            rw [← hO1] at HS1 HS2
            rw [← hO1]
            have HO1 := Lib.hid hO1
            clear hO1
            by_cases hlt6 : q < 4
            · obtain ⟨D, hD⟩ : ∃ D : Nat, D = 24 - 8 * q := ⟨_, rfl⟩
              have hD2 : (24 - 8 * (q : Int)) = (D : Int) := by omega
              rw [hD2]
              have HD2 := Lib.hid hD2
              have ck := (US.out.grown hgq (by simp)).cell p (by rw [NH.out]; exact hlt5)
              have lk := FH.out p
              have e0 : outB H (4 * p + q) = H.getD p 0 / 2 ^ D % 256 := by
                unfold outB
                rw [show (4 * p + q) / 4 = p by omega, show 24 - (4 * p + q) % 4 * 8 = D by omega]
              rw [e0] at HS2
              generalize H.getD p 0 = x at *
              obtain ⟨y, hy⟩ : ∃ y, y = x / 2 ^ D := ⟨_, rfl⟩
              have ly : y < 4294967296 := by rw [hy]; exact Nat.lt_of_le_of_lt (Nat.div_le_self _ _) lk
              have e1 : (x : Int) / 2 ^ D = (y : Int) := by rw [hy, Int.natCast_ediv, Int.natCast_pow]; rfl
              rw [← hy] at HS2
              obtain ⟨b, hb'⟩ : ∃ b : UInt8, b = UInt8.ofNat (y % 256) := ⟨_, rfl⟩
              rw [← hb'] at HS2
              have hbn : b.toNat = y % 256 := by rw [hb', UInt8.toNat_ofNat']; omega
              have e2 : (y : Int) % 256 = (b.toNat : Int) := by rw [hbn]; rfl
              have e3 : IntKind.u8.wrap (y : Int) = (b.toNat : Int) := by rw [hbn]; simp [IntKind.wrap, IntKind.signed, IntKind.bits]
              have hcv := one_conv wr b _ rfl
              have hS1 : (ByteArray.mk #[b]).size = 1 := rfl
              have hDD : D ≤ 24 := by omega
              have p0 : (0 : Int) ≤ (p : Int) := by omega
              have p1 : (p : Int) < 8 := by omega
              clear hD hD2 e0 hy hb' hbn
              go_wp2_with fail
              refine ⟨⟨q + 1, by omega, congrArg (Value.int .i64) (by have := HD2.out; omega), by rw [HS2.out], hgq.trans (World.grownBy_alloc _ _ _)⟩, by have := HD2.out; simp only [intOf]; omega⟩
            · have hq4 : q = 4 := by omega
              subst hq4
              go_wp2_with fail
              refine ⟨⟨p + 1, by omega, rfl, by rw [HO1.out, show 4 * (p + 1) = 4 * p + 4 by omega], hgq⟩, by simp only [intOf]; omega⟩
        · have hp8 : p = 8 := by omega
          subst hp8
          go_wp2_with fail
          go_ret
          refine ⟨?_, hg.trans hgp⟩
          show Ending.returned (.string (outS H 32)) = _
          rw [← HH.out]
          rfl
end Go.Proofs.Ytlcimiboalpdkaa

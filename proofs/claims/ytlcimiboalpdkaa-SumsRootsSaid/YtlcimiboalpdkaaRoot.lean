/- The walk over the reference's root. -/
import Derived.Test.YtlcimiboalpdkaaTimes
namespace Go.Proofs.Ytlcimiboalpdkaa
open Go.RowKit

theorem set_getD (X : List Nat) (a : Nat) (h : a < X.length) : X.set a (X.getD a 0) = X := by
  apply List.ext_getElem
  · simp
  · intro i h1 h2
    rw [List.getElem_set]
    split
    · rename_i e; subst e; simp [List.getD, h]
    · rfl
theorem set_set2 (l : List Nat) (i a b : Nat) : (l.set i a).set i b = l.set i b := by simp
/-- A digit, halved down to: what may be, and what may not. -/
def bisK (X : List Nat) (a T pw : Nat) : Nat → Nat × Nat
  | 0 => (0, 256)
  | k + 1 => if T < valTo (X.set a (((bisK X a T pw k).1 + (bisK X a T pw k).2) / 2)) 5 ^ pw then ((bisK X a T pw k).1, ((bisK X a T pw k).1 + (bisK X a T pw k).2) / 2) else (((bisK X a T pw k).1 + (bisK X a T pw k).2) / 2, (bisK X a T pw k).2)
/-- Behind s digits, from the highest on. -/
def rx (T pw : Nat) : Nat → List Nat
  | 0 => List.replicate 5 0
  | s + 1 => (rx T pw s).set (4 - s) (bisK (rx T pw s) (4 - s) T pw 8).1
def rootN (p pw : Nat) : Nat :=
  (((rx (p * 256 ^ (4 * pw)) pw 5).getD 3 0 * 256 + (rx (p * 256 ^ (4 * pw)) pw 5).getD 2 0) * 256 + (rx (p * 256 ^ (4 * pw)) pw 5).getD 1 0) * 256 + (rx (p * 256 ^ (4 * pw)) pw 5).getD 0 0
theorem bisK_ok (X : List Nat) (a T pw k : Nat) (hk : k ≤ 8) : (bisK X a T pw k).1 + 2 ^ (8 - k) = (bisK X a T pw k).2 ∧ (bisK X a T pw k).2 ≤ 256 := by
  induction k with
  | zero => exact ⟨rfl, Nat.le_refl _⟩
  | succ k ih =>
    obtain ⟨h1, h2⟩ := ih (by omega)
    have e : 2 ^ (8 - k) = 2 * 2 ^ (8 - (k + 1)) := by
      rw [show 8 - k = (8 - (k + 1)) + 1 by omega, Nat.pow_succ, Nat.mul_comm]
    rw [e] at h1
    simp only [bisK]
    generalize 2 ^ (8 - (k + 1)) = D at *
    generalize (bisK X a T pw k).1 = m at *
    generalize (bisK X a T pw k).2 = n at *
    split <;> simp only <;> omega
theorem Dig.set {L : List Nat} (h : Dig L) (k v : Nat) (hv : v < 256) : Dig (L.set k v) := by
  intro j
  by_cases e : k = j
  · subst e
    by_cases hk : k < L.length
    · rw [getD_set_same _ _ _ hk]; exact hv
    · rw [getD_out _ _ (by rw [List.length_set]; omega)]; decide
  · rw [getD_set_far _ _ _ _ e]; exact h j
theorem zeros_getD (n j : Nat) : (List.replicate n 0).getD j 0 = 0 := by simp [List.getD, List.getElem?_replicate]; split <;> rfl
theorem rx_ok (T pw s : Nat) (hs : s ≤ 5) : (rx T pw s).length = 5 ∧ Dig (rx T pw s) := by
  induction s with
  | zero => exact ⟨rfl, fun j => by rw [show (rx T pw 0).getD j 0 = 0 from zeros_getD 5 j]; decide⟩
  | succ s ih =>
    obtain ⟨h1, h2⟩ := ih (by omega)
    have hb := bisK_ok (rx T pw s) (4 - s) T pw 8 (Nat.le_refl _)
    refine ⟨by simp only [rx, List.length_set]; exact h1, ?_⟩
    exact h2.set _ _ (by have : 2 ^ (8 - 8) = 1 := rfl; omega)
theorem own_full (w : World) (base : Nat) (L : List Nat) (hb : base ≤ w.heap.size) (hl : L.length ≤ maxLen) : (w.alloc (.cells (i64s L).toArray 3)).ownsRow base 3 1 (.slice (some ⟨w.heap.size, 0, none⟩) L.length L.length) L.length (i64s L) := by
  refine ⟨by rw [i64s_length, Nat.mul_one], .inr ⟨w.heap.size, L.length, (i64s L).toArray, rfl, hb, heap_alloc_new w _, Nat.le_refl _, hl, by simp [i64s], ?_⟩⟩
  rw [Nat.mul_one, ← i64s_length L]
  simp
def mostL (p pw : Nat) : List Nat := List.replicate (4 * pw) 0 ++ [p % 256, p / 256]
theorem mostL_length (p pw : Nat) : (mostL p pw).length = 4 * pw + 2 := by simp [mostL]
theorem mostL_dig (p pw : Nat) (hp : p < 1000) : Dig (mostL p pw) := by
  intro j
  unfold mostL
  rw [List.getD_eq_getElem?_getD]
  by_cases h : j < 4 * pw
  · rw [List.getElem?_append_left (by simpa using h)]
    simp [List.getElem?_replicate, h]
  · rw [List.getElem?_append_right (by simp; omega)]
    simp only [List.length_replicate]
    match hj : j - 4 * pw with
    | 0 => simp; omega
    | 1 => simp; omega
    | n + 2 => simp
theorem mostL_val (p pw N : Nat) (hN : 4 * pw + 2 ≤ N) : valTo (mostL p pw) N = p * 256 ^ (4 * pw) := by
  rw [valTo_top _ _ (by rw [mostL_length]; exact hN), mostL_length]
  have low : ∀ m, m ≤ 4 * pw → valTo (mostL p pw) m = 0 := by
    intro m
    induction m with
    | zero => intro _; rfl
    | succ m ih =>
      intro hm
      simp only [valTo]
      rw [ih (by omega)]
      have : (mostL p pw).getD m 0 = 0 := by
        unfold mostL
        rw [List.getD_eq_getElem?_getD, List.getElem?_append_left (by simp; omega)]
        simp [List.getElem?_replicate, show m < 4 * pw by omega]
      rw [this]; omega
  have d0 : (mostL p pw).getD (4 * pw) 0 = p % 256 := by
    unfold mostL
    rw [List.getD_eq_getElem?_getD, List.getElem?_append_right (by simp)]
    simp
  have d1 : (mostL p pw).getD (4 * pw + 1) 0 = p / 256 := by
    unfold mostL
    rw [List.getD_eq_getElem?_getD, List.getElem?_append_right (by simp)]
    simp
  show valTo (mostL p pw) (4 * pw) + (mostL p pw).getD (4 * pw) 0 * 256 ^ (4 * pw) + (mostL p pw).getD (4 * pw + 1) 0 * 256 ^ (4 * pw + 1) = _
  rw [low _ (Nat.le_refl _), d0, d1, Nat.pow_succ]
  generalize 256 ^ (4 * pw) = P
  have hp : p = p % 256 + 256 * (p / 256) := by omega
  conv => rhs; rw [hp]
  rw [Nat.add_mul, Nat.mul_comm P 256, ← Nat.mul_assoc, Nat.mul_comm (p / 256) 256]
  omega

set_option maxHeartbeats 4000000 in
theorem root_any (p pw : Nat) (hp : p < 1000) (hp2 : 2 ≤ pw) (hp3 : pw ≤ 3) (w : World) : Calls Try.prog 23 #[.int .i64 p, .int .i64 pw] w fun e w' => e = .returned (.int .u64 (rootN p pw : Nat)) ∧ w.grownBy w' none := by
  obtain ⟨i3, hi, hz, hsz, hb⟩ := info_parts Try.info3
  obtain ⟨R, hR⟩ : ∃ R, R = rootN p pw := ⟨_, rfl⟩
  rw [← hR]
  have HR := Lib.hid hR
  clear hR
  unfold rootN at HR
  have MV := Lib.hid (mostL_val p pw (5 * pw) (by omega))
  obtain ⟨T, hT⟩ : ∃ T, T = p * 256 ^ (4 * pw) := ⟨_, rfl⟩
  rw [← hT] at HR MV
  clear hT
  have MD := Lib.hid (mostL_dig p pw hp)
  have ML := Lib.hid (mostL_length p pw)
  obtain ⟨M, hM⟩ : ∃ M, M = 4 * pw := ⟨_, rfl⟩
  have e1 : IntKind.i64.wrap (4 * (pw : Int)) = (M : Int) := by rw [Go.IntWalk.i64_in _ (by omega)]; omega
  have e2 : 4 * (pw : Int) = (M : Int) := by omega
  have hmk := make_ints w M (by omega)
  obtain ⟨r, hr⟩ : ∃ r, r = p % 256 := ⟨_, rfl⟩
  obtain ⟨q, hq⟩ : ∃ q, q = p / 256 := ⟨_, rfl⟩
  have e3 : (p : Int) % 256 = (r : Int) := by omega
  have e4 : (p : Int).tmod 256 = (r : Int) := by rw [Int.tmod_eq_emod_of_nonneg (by omega)]; omega
  have e5 : (p : Int) / 256 = (q : Int) := by omega
  have e6 : (p : Int).tdiv 256 = (q : Int) := by rw [Int.tdiv_eq_ediv_of_nonneg (by omega)]; omega
  have hMl : M ≤ 12 := by omega
  have HML : Hid (mostL p pw = List.replicate M 0 ++ [r, q]) := by show _ = _; rw [hM, hr, hq]; rfl
  have HMM := Lib.hid hM
  clear hr hq hM
  have OF := own_full w w.heap.size (List.replicate M 0) (Nat.le_refl _) (by rw [List.length_replicate]; unfold maxLen; omega)
  rw [List.length_replicate] at OF
  have hg1 := World.grownBy_alloc w (.cells (i64s (List.replicate M 0)).toArray 3) none
  obtain ⟨w1, hw1⟩ : ∃ w1, w1 = w.alloc (.cells (i64s (List.replicate M 0)).toArray 3) := ⟨_, rfl⟩
  rw [← hw1] at OF hg1 hmk
  clear hw1
  have OWN := Lib.hid OF
  clear OF
  go_enter Try.func23, Try.ntmps23
  go_wp2_with (at_builtin; refine wpList_append_own _ rfl (.tmp 14) (.tmp 19) 55 rfl w.heap.size 3 i3 (.int .i64 0) 1 8 Try.underlying55 hi hz hsz hb rfl (by decide) (.slice (some ⟨w.heap.size, 0, none⟩) M M) M _ rfl (World.ownsRow.alloc OWN.out _) ⟨w1.heap.size, 0, none⟩ 2 2 [_, _] rfl rfl (World.news_of_block (heap_alloc_new _ _)) ?_ ?_ ?_ ?_ ?_)
  · intro u hu; simp at hu; rcases hu with rfl | rfl <;> rfl
  · unfold maxLen; omega
  · omega
  · have := hg1.size; simp; omega
  intro v2 w2 hown2 hg2 _
  have hg3 := grown_own OWN.out (grown_alloc hg1 _) hg2
  have hown3 : w2.ownsRow w.heap.size 3 1 v2 (M + 2) (i64s (mostL p pw)) := by rw [HML.out, i64s_append]; exact hown2
  obtain ⟨gm, cm, rfl, hgm, -, -, rm⟩ := own_open3 hown3 (by omega)
  have RM := Lib.hid rm
  have hmx : (Instr.makeSlice 55 (.int .i64 5) (.int .i64 5)).run Try.prog w2 = .ok (.slice (some ⟨w2.heap.size, 0, none⟩) 5 5) (w2.alloc (.cells (i64s (List.replicate 5 0)).toArray 3)) := make_ints w2 5 (by decide)
  have rx0 := i64_new w2 (List.replicate 5 0)
  have hg4 := hg3.trans (World.grownBy_alloc w2 (.cells (i64s (List.replicate 5 0)).toArray 3) none)
  have rm4 := RM.out.grown (World.grownBy_alloc w2 (.cells (i64s (List.replicate 5 0)).toArray 3) none) (by simp)
  have hgmx : gm < w2.heap.size := RM.out.lt
  obtain ⟨w3, hw3⟩ : ∃ w3, w3 = w2.alloc (.cells (i64s (List.replicate 5 0)).toArray 3) := ⟨_, rfl⟩
  rw [← hw3] at hmx rx0 hg4 rm4
  obtain ⟨gx, hgx⟩ : ∃ gx, gx = w2.heap.size := ⟨_, rfl⟩
  rw [← hgx] at hmx rx0 hgmx
  have hgxw : w.heap.size ≤ gx := by rw [hgx]; exact hg3.size
  have RX0 := Lib.hid rx0
  have RM4 := Lib.hid rm4
  have hne : gm ≠ gx := by omega
  clear hown2 hown3 hg2 rm OWN hmk hw3 hgx rx0 rm4 RM hg3 hg1
  go_wp2_with fail
  go_loopw [7, 8, 9, 10, 11] (fun i _ _ _ _ wr => ∃ s : Nat, s ≤ 5 ∧ i = .int .i64 (4 - (s : Int)) ∧ I64At wr gx (rx T pw s) ∧ I64At wr gm (mostL p pw) ∧ w.grownBy wr none) (fun i _ _ _ _ _ => (intOf i + 1).toNat)
  case atStart => exact ⟨0, by omega, rfl, RX0.out, RM4.out, hg4⟩
  case round =>
    obtain ⟨s, hs, rfl, rX, rM, hg⟩ := hrel
    obtain ⟨W1, rfl⟩ : ∃ W1, W1 = wr := ⟨_, rfl⟩
    have RX := Lib.hid rX
    have RM := Lib.hid rM
    clear rX rM
    by_cases hlt : s < 5
    · obtain ⟨a, ha⟩ : ∃ a, a = 4 - s := ⟨_, rfl⟩
      have ha2 : (4 - (s : Int)) = (a : Int) := by omega
      have ha5 : a < 5 := by omega
      have XO := Lib.hid (rx_ok T pw s (by omega))
      have XS : Hid (rx T pw (s + 1) = (rx T pw s).set a (bisK (rx T pw s) a T pw 8).1) := by show _ = _; rw [ha]; rfl
      have HA := Lib.hid ha
      have HA2 := Lib.hid ha2
      rw [ha2]
      clear ha ha2
      generalize rx T pw s = X at *
      go_wp2_with fail
      go_loopw [8, 9, 10, 11] (fun m n _ _ wr => ∃ (k m' n' z : Nat), k ≤ 8 ∧ m = .int .i64 m' ∧ n = .int .i64 n' ∧ bisK X a T pw k = (m', n') ∧ z < 256 ∧ I64At wr gx (X.set a z) ∧ I64At wr gm (mostL p pw) ∧ w.grownBy wr none) (fun m n _ _ _ => (intOf n - intOf m).toNat)
      case atStart => exact ⟨0, 0, 256, X.getD a 0, by omega, rfl, rfl, rfl, XO.out.2 a, by rw [set_getD X a (by rw [XO.out.1]; exact ha5)]; exact RX.out, RM.out, hg⟩
      case round =>
        obtain ⟨k, m, n, z, hk, rfl, rfl, hbk, hz256, rX, rM, hg⟩ := hrel
        obtain ⟨W2, rfl⟩ : ∃ W2, W2 = wr := ⟨_, rfl⟩
        obtain ⟨b1, b2⟩ := bisK_ok X a T pw k hk
        rw [hbk] at b1 b2
        simp only at b1 b2
        by_cases hlt2 : k < 8
        · have hD : 2 ^ (8 - k) = 2 * 2 ^ (8 - (k + 1)) := by
            rw [show 8 - k = (8 - (k + 1)) + 1 by omega, Nat.pow_succ, Nat.mul_comm]
          have hD1 : 1 ≤ 2 ^ (8 - (k + 1)) := Nat.one_le_two_pow
          rw [hD] at b1
          have BS : Hid (bisK X a T pw (k + 1) = if T < valTo (X.set a ((m + n) / 2)) 5 ^ pw then (m, (m + n) / 2) else ((m + n) / 2, n)) := by
            show _ = _
            simp only [bisK, hbk]
          obtain ⟨c, hc⟩ : ∃ c, c = (m + n) / 2 := ⟨_, rfl⟩
          have hcm : m < c := by omega
          have hcn : c < n := by omega
          rw [← hc] at BS
          have s1 : IntKind.i64.wrap ((m : Int) + (n : Int)) = (m : Int) + (n : Int) := Go.IntWalk.i64_in _ (by omega)
          have s2 : ((m : Int) + (n : Int)) / 2 = (c : Int) := by omega
          have s3 : ((m : Int) + (n : Int)).tdiv 2 = (c : Int) := by rw [Int.tdiv_eq_ediv_of_nonneg (by omega)]; omega
          have s4 : IntKind.i64.wrap (c : Int) = (c : Int) := Go.IntWalk.i64_in _ (by omega)
          have s5 : (1 : Int) < (n : Int) - (m : Int) := by omega
          have s6 : IntKind.i64.wrap ((n : Int) - (m : Int)) = (n : Int) - (m : Int) := Go.IntWalk.i64_in _ (by omega)
          have lx : (X.set a z).length = 5 := by rw [List.length_set]; exact XO.out.1
          have c0 := rX.cell a (by omega)
          have f0 := rX.free a
          have rX2 := rX.set a c (by omega)
          rw [set_set2] at rX2
          have RX2 := Lib.hid rX2
          have RM2 := Lib.hid (rM.grown (row := some gx) (grown_set ⟨rfl, rfl, rfl, Nat.le_refl _, fun _ _ _ => rfl⟩ a (.int .i64 (c : Nat))) (by simpa using hne))
          have hg2 := grown_setR hg hgxw a (.int .i64 (c : Nat))
          have a0 : (0 : Int) ≤ (a : Int) := by omega
          have a1 : (a : Int) < 5 := by omega
          have MB := Lib.hid hbk
          clear rX rX2 rM hc lx hbk hD hD1 b1
          go_wp2_with fail
          have XCD : Hid (Dig (X.set a c)) := XO.out.2.set a c (by omega)
          have XCL : Hid ((X.set a c).length = 5) := by show _ = _; rw [List.length_set]; exact XO.out.1
          obtain ⟨W3, hW3⟩ : ∃ W3, W3 = W2.setCell ⟨gx, a, none⟩ (.int .i64 (c : Nat)) := ⟨_, rfl⟩
          rw [← hW3] at RX2 RM2 hg2
          rw [← hW3]
          clear hW3 c0 f0 s1 s2 s3 s4 s5 s6
          obtain ⟨XC, hXC⟩ : ∃ XC, XC = X.set a c := ⟨_, rfl⟩
          rw [← hXC] at RX2 XCD XCL BS
          have HXC := Lib.hid hXC
          clear hXC
          go_loopw [10, 11] (fun y i wr => ∃ (j g cap : Nat) (Y : List Nat), 1 ≤ j ∧ j ≤ pw ∧ i = .int .i64 j ∧ y = .slice (some ⟨g, 0, none⟩) (5 * j) cap ∧ Y.length = 5 * j ∧ Dig Y ∧ valTo Y (5 * j) = valTo XC 5 ^ j ∧ I64At wr g Y ∧ W3.grownBy wr none) (fun _ i _ => pw - (intOf i).toNat)
          case atStart => exact ⟨1, gx, 5, XC, by omega, by omega, rfl, rfl, XCL.out, XCD.out, (Nat.pow_one _).symm, RX2.out, ⟨rfl, rfl, rfl, Nat.le_refl _, fun _ _ _ => rfl⟩⟩
          case round =>
            obtain ⟨j, g, cap, Y, hj1, hjp, rfl, rfl, hYl, hYd, hYv, rY, hgy⟩ := hrel
            obtain ⟨W4, rfl⟩ : ∃ W4, W4 = wr := ⟨_, rfl⟩
            have RY := Lib.hid rY
            have YL := Lib.hid hYl
            have YD := Lib.hid hYd
            have YV := Lib.hid hYv
            have RX4 := Lib.hid (RX2.out.grown hgy (by simp))
            have RM4 := Lib.hid (RM2.out.grown hgy (by simp))
            clear rY hYl hYd hYv
            by_cases hlt3 : j < pw
            · go_wp2_with fail
              refine (times_any g (5 * j) cap gx 5 5 Y XC W4 YL.out XCL.out (by omega) (by omega) (by omega) (by omega) YD.out XCD.out RY.out RX4.out).mono ?_
              rintro e w5 ⟨g5, C, rfl, hCl, hCd, hCv, rC, hgb, hg5⟩
              have CL := Lib.hid hCl
              have CD := Lib.hid hCd
              have CV : Hid (valTo C (5 * (j + 1)) = valTo XC 5 ^ (j + 1)) := by
                show _ = _
                rw [Nat.pow_succ, ← YV.out]
                exact hCv
              have RC := Lib.hid rC
              clear hCl hCd hCv rC
              go_wp2_with fail
              refine ⟨⟨j + 1, g5, _, C, by omega, by omega, rfl, rfl, CL.out, CD.out, CV.out, RC.out, hgy.trans hg5⟩, by simp only [intOf]; omega⟩
            · have hjp' : j = pw := by omega
              subst hjp'
              have ck : W4.cell? ⟨gx, a, none⟩ = some (.int .i64 (c : Nat)) := by
                have h := RX4.out.cell a (by rw [XCL.out]; exact ha5)
                rw [h, HXC.out, getD_set_same _ _ _ (by rw [XO.out.1]; exact ha5)]
              have hG4 : w.grownBy W4 none := hg2.trans hgy
              have AB := Lib.hid (fun v (h1 : I64At v g Y) (h2 : I64At v gm (mostL p j)) => above_any g (5 * j) cap gm (M + 2) cm (5 * j) Y (mostL p j) v YL.out (by rw [ML.out, HMM.out]) (by have := HMM.out; omega) (by omega) (Nat.le_refl _) YD.out MD.out h1 h2)
              rw [MV.out, YV.out] at AB
              by_cases hT : T < valTo XC 5 ^ j
              · rw [if_pos hT] at BS
                rw [decide_eq_true hT] at AB
                clear hT
                go_wp2_with fail
                refine (AB.out _ RY.out RM4.out).mono ?_
                rintro e w' ⟨rfl, rfl⟩
                go_wp2_with fail
                refine ⟨⟨k + 1, m, c, c, by omega, rfl, rfl, BS.out, by omega, by rw [← HXC.out]; exact RX4.out, RM4.out, hG4⟩, by simp only [intOf]; omega⟩
              · rw [if_neg hT] at BS
                rw [decide_eq_false hT] at AB
                clear hT
                go_wp2_with fail
                refine (AB.out _ RY.out RM4.out).mono ?_
                rintro e w' ⟨rfl, rfl⟩
                go_wp2_with fail
                refine ⟨⟨k + 1, c, n, c, by omega, rfl, rfl, BS.out, by omega, by rw [← HXC.out]; exact RX4.out, RM4.out, hG4⟩, by simp only [intOf]; omega⟩
        · have hk8 : k = 8 := by omega
          subst hk8
          have b1' : m + 1 = n := b1
          have s5 : ¬ (1 : Int) < (n : Int) - (m : Int) := by omega
          have s6 : IntKind.i64.wrap ((n : Int) - (m : Int)) = (n : Int) - (m : Int) := Go.IntWalk.i64_in _ (by omega)
          have lx : (X.set a z).length = 5 := by rw [List.length_set]; exact XO.out.1
          have c0 := rX.cell a (by omega)
          have f0 := rX.free a
          have rX2 := rX.set a m (by omega)
          rw [set_set2] at rX2
          have XS2 : Hid (rx T pw (s + 1) = X.set a m) := by show _ = _; rw [XS.out, hbk]
          have RX2 := Lib.hid rX2
          have RM2 := Lib.hid (rM.grown (row := some gx) (grown_set ⟨rfl, rfl, rfl, Nat.le_refl _, fun _ _ _ => rfl⟩ a (.int .i64 (m : Nat))) (by simpa using hne))
          have hg2 := grown_setR hg hgxw a (.int .i64 (m : Nat))
          have a0 : (0 : Int) ≤ (a : Int) := by omega
          have a1 : (a : Int) < 5 := by omega
          clear rX rX2 rM lx hbk b1 b1'
          go_wp2_with fail
          refine ⟨⟨s + 1, by omega, congrArg (Value.int .i64) (by have := HA2.out; omega), by rw [XS2.out]; exact RX2.out, RM2.out, hg2⟩, by simp only [intOf]; omega⟩
    · have hs5 : s = 5 := by omega
      subst hs5
      have XO := Lib.hid (rx_ok T pw 5 (Nat.le_refl _))
      have c0 := RX.out.cell 0 (by rw [XO.out.1]; decide)
      have c1 := RX.out.cell 1 (by rw [XO.out.1]; decide)
      have c2 := RX.out.cell 2 (by rw [XO.out.1]; decide)
      have c3 := RX.out.cell 3 (by rw [XO.out.1]; decide)
      have l0 := XO.out.2 0
      have l1 := XO.out.2 1
      have l2 := XO.out.2 2
      have l3 := XO.out.2 3
      generalize (rx T pw 5).getD 0 0 = x0 at *
      generalize (rx T pw 5).getD 1 0 = x1 at *
      generalize (rx T pw 5).getD 2 0 = x2 at *
      generalize (rx T pw 5).getD 3 0 = x3 at *
      have m1 : IntKind.i64.wrap ((x3 : Int) * 256) = (x3 : Int) * 256 := Go.IntWalk.i64_in _ (by omega)
      have m2 : IntKind.i64.wrap ((x3 : Int) * 256 + (x2 : Int)) = (x3 : Int) * 256 + (x2 : Int) := Go.IntWalk.i64_in _ (by omega)
      have m3 : IntKind.i64.wrap (((x3 : Int) * 256 + (x2 : Int)) * 256) = ((x3 : Int) * 256 + (x2 : Int)) * 256 := Go.IntWalk.i64_in _ (by omega)
      have m4 : IntKind.i64.wrap (((x3 : Int) * 256 + (x2 : Int)) * 256 + (x1 : Int)) = ((x3 : Int) * 256 + (x2 : Int)) * 256 + (x1 : Int) := Go.IntWalk.i64_in _ (by omega)
      have m5 : IntKind.i64.wrap ((((x3 : Int) * 256 + (x2 : Int)) * 256 + (x1 : Int)) * 256) = (((x3 : Int) * 256 + (x2 : Int)) * 256 + (x1 : Int)) * 256 := Go.IntWalk.i64_in _ (by omega)
      have m6 : IntKind.i64.wrap ((((x3 : Int) * 256 + (x2 : Int)) * 256 + (x1 : Int)) * 256 + (x0 : Int)) = (R : Int) := by rw [Go.IntWalk.i64_in _ (by omega)]; have := HR.out; omega
      have m7 : IntKind.u64.wrap (R : Int) = (R : Int) := Go.IntWalk.u64_in _ (by have := HR.out; omega)
      go_wp2_with fail
      go_quiet (fail)
      go_wp2_with fail
      go_ret
      exact ⟨rfl, ⟨hg.os, hg.tape, hg.output, hg.size, hg.block⟩⟩
end Go.Proofs.Ytlcimiboalpdkaa

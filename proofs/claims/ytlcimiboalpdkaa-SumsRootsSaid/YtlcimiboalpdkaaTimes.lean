/- The walk over the reference's times. -/
import Derived.Test.YtlcimiboalpdkaaDgt
namespace Go.Proofs.Ytlcimiboalpdkaa
open Go.RowKit

theorem Try.info3 : (Try.prog.info? 3).map (fun i => (i.zero, i.size, i.bytes)) = some (some (.int .i64 0), 1, 8) := by kernel_rfl
theorem make_ints (w : World) (n : Nat) (hn : n ≤ 20000) : (Instr.makeSlice 55 (.int .i64 (n : Int)) (.int .i64 (n : Int))).run Try.prog w = .ok (.slice (some ⟨w.heap.size, 0, none⟩) n n) (w.alloc (.cells (i64s (List.replicate n 0)).toArray 3)) := by
  obtain ⟨i3, hi3, hz3, hs3, hb3⟩ := info_parts Try.info3
  have h := run_make (P := Try.prog) w 55 3 i3 _ Try.underlying55 hi3 hz3 .i64 .i64 (n : Int) (n : Int) (by omega) (Int.le_refl _) (by rw [hb3]; omega) (by omega)
  rw [hs3] at h
  simp only [Int.toNat_natCast, Nat.mul_one] at h
  rw [h]
  congr 4
  apply Array.ext
  · simp [madeCells, i64s]
  · intro i h1 h2
    simp [madeCells, Value.cells, Nat.mod_one, i64s]
theorem valTo_zeros (n m : Nat) : valTo (List.replicate n 0) m = 0 := by
  induction m with
  | zero => rfl
  | succ m ih =>
    simp only [valTo]
    rw [ih, show (List.replicate n 0).getD m 0 = 0 by simp [List.getD, List.getElem?_replicate]; split <;> rfl]
    omega
/-- All at most M. -/
def AtMost (L : List Nat) (M : Nat) : Prop := ∀ j, L.getD j 0 ≤ M
theorem getD_set_same (L : List Nat) (k v : Nat) (h : k < L.length) : (L.set k v).getD k 0 = v := by simp [List.getD, h]
theorem getD_set_far (L : List Nat) (k v j : Nat) (h : k ≠ j) : (L.set k v).getD j 0 = L.getD j 0 := by simp [List.getD, List.getElem?_set_ne h]

/-- A product more. -/
theorem mul_step (O A B : List Nat) (i j N M : Nat) (hO : O.length = N) (hij : i + j < N) (hv : valTo O N = valTo A i * valTo B N + A.getD i 0 * 256 ^ i * valTo B j) (hb : AtMost O M) (a : A.getD i 0 < 256) (b : B.getD j 0 < 256) :
    valTo (O.set (i + j) (O.getD (i + j) 0 + A.getD i 0 * B.getD j 0)) N = valTo A i * valTo B N + A.getD i 0 * 256 ^ i * valTo B (j + 1) ∧ AtMost (O.set (i + j) (O.getD (i + j) 0 + A.getD i 0 * B.getD j 0)) (M + 65025) ∧ O.getD (i + j) 0 ≤ M ∧ A.getD i 0 * B.getD j 0 ≤ 65025 := by
  have hab : A.getD i 0 * B.getD j 0 ≤ 255 * 255 := Nat.mul_le_mul (by omega) (by omega)
  have hs := valTo_set O (i + j) (O.getD (i + j) 0 + A.getD i 0 * B.getD j 0) N (by omega) hij
  refine ⟨?_, fun k => ?_, hb _, hab⟩
  · rw [Nat.add_mul] at hs
    have e : A.getD i 0 * B.getD j 0 * 256 ^ (i + j) = A.getD i 0 * 256 ^ i * (B.getD j 0 * 256 ^ j) := by
      rw [Nat.pow_add]
      simp only [Nat.mul_assoc, Nat.mul_left_comm, Nat.mul_comm]
    have e2 : A.getD i 0 * 256 ^ i * valTo B (j + 1) = A.getD i 0 * 256 ^ i * valTo B j + A.getD i 0 * 256 ^ i * (B.getD j 0 * 256 ^ j) := by
      simp only [valTo, Nat.mul_add]
    rw [e2, ← Nat.add_assoc, ← hv]
    omega
  · by_cases e : i + j = k
    · subst e
      rw [getD_set_same _ _ _ (by omega)]
      have := hb (i + j)
      omega
    · rw [getD_set_far _ _ _ _ e]
      have := hb k
      omega

/-- A carry. -/
theorem carry_step (O : List Nat) (k N : Nat) (hO : O.length = N) (hk : k + 1 < N) (hd : ∀ j, j < k → O.getD j 0 < 256) (hkb : O.getD k 0 ≤ 52020000) (hjb : ∀ j, k < j → O.getD j 0 ≤ 26010000) :
    valTo ((O.set (k + 1) (O.getD (k + 1) 0 + O.getD k 0 / 256)).set k (O.getD k 0 % 256)) N = valTo O N ∧
      (∀ j, j < k + 1 → ((O.set (k + 1) (O.getD (k + 1) 0 + O.getD k 0 / 256)).set k (O.getD k 0 % 256)).getD j 0 < 256) ∧
      ((O.set (k + 1) (O.getD (k + 1) 0 + O.getD k 0 / 256)).set k (O.getD k 0 % 256)).getD (k + 1) 0 ≤ 52020000 ∧
      (∀ j, k + 1 < j → ((O.set (k + 1) (O.getD (k + 1) 0 + O.getD k 0 / 256)).set k (O.getD k 0 % 256)).getD j 0 ≤ 26010000) := by
  have s1 := valTo_set O (k + 1) (O.getD (k + 1) 0 + O.getD k 0 / 256) N (by omega) hk
  have s2 := valTo_set (O.set (k + 1) (O.getD (k + 1) 0 + O.getD k 0 / 256)) k (O.getD k 0 % 256) N (by rw [List.length_set]; omega) (by omega)
  have hb := hjb (k + 1) (by omega)
  rw [getD_set_far _ _ _ _ (show k + 1 ≠ k by omega)] at s2
  have hlen : (O.set (k + 1) (O.getD (k + 1) 0 + O.getD k 0 / 256)).length = N := by rw [List.length_set]; exact hO
  refine ⟨?_, fun j hj => ?_, ?_, fun j hj => ?_⟩
  · generalize O.getD k 0 = u at *
    generalize O.getD (k + 1) 0 = v at *
    rw [Nat.pow_succ] at s1
    generalize 256 ^ k = P at *
    have hu : u = 256 * (u / 256) + u % 256 := by omega
    generalize u / 256 = c at *
    generalize u % 256 = r at *
    rw [Nat.add_mul] at s1
    have e1 : c * (P * 256) = 256 * (c * P) := by rw [← Nat.mul_assoc, Nat.mul_comm]
    have e2 : u * P = 256 * (c * P) + r * P := by rw [hu, Nat.add_mul, Nat.mul_assoc]
    rw [e1] at s1
    rw [e2] at s2
    omega
  · by_cases e : k = j
    · subst e
      rw [getD_set_same _ _ _ (by omega)]
      omega
    · rw [getD_set_far _ _ _ _ e, getD_set_far _ _ _ _ (by omega)]
      exact hd j (by omega)
  · rw [getD_set_far _ _ _ _ (by omega), getD_set_same _ _ _ (by omega)]
    omega
  · rw [getD_set_far _ _ _ _ (by omega), getD_set_far _ _ _ _ (by omega)]
    exact hjb j (by omega)

set_option maxHeartbeats 2000000 in
theorem times_any (g1 n1 c1 g2 n2 c2 : Nat) (A B : List Nat) (w : World) (hA : A.length = n1) (hB : B.length = n2) (h1 : 0 < n1) (h2 : 0 < n2) (l1 : n1 ≤ 20) (l2 : n2 ≤ 20) (dA : Dig A) (dB : Dig B) (r1 : I64At w g1 A) (r2 : I64At w g2 B) :
    Calls Try.prog 33 #[.slice (some ⟨g1, 0, none⟩) n1 c1, .slice (some ⟨g2, 0, none⟩) n2 c2] w fun e w' =>
      ∃ g C, e = .returned (.slice (some ⟨g, 0, none⟩) (n1 + n2) (n1 + n2)) ∧ C.length = n1 + n2 ∧ Dig C ∧ valTo C (n1 + n2) = valTo A n1 * valTo B n2 ∧ I64At w' g C ∧ w.heap.size ≤ g ∧ w.grownBy w' none := by
  obtain ⟨N, hN⟩ : ∃ N, N = n1 + n2 := ⟨_, rfl⟩
  have hN2 : (n1 : Int) + (n2 : Int) = (N : Int) := by omega
  have hmk : ∀ v : World, _ := fun v => make_ints v N (by omega)
  have R1 := Lib.hid r1
  have R2 := Lib.hid r2
  have HLA := Lib.hid hA
  have HLB := Lib.hid hB
  have DA := Lib.hid dA
  have DB := Lib.hid dB
  rw [← hN]
  have HN := Lib.hid hN
  have hNl : N ≤ 40 := by omega
  have VA := Lib.hid (valTo_top A N (by omega))
  have VB := Lib.hid (valTo_top B N (by omega))
  have z1 : (0 : Int) < (n1 : Int) := by omega
  clear r1 r2 hA hB dA dB hN
  go_enter Try.func33, Try.ntmps33
  go_wp2_with fail
  go_loopw [6, 7] (fun i _ wr => ∃ (p : Nat) (O : List Nat), p ≤ n1 ∧ i = .int .i64 p ∧ O.length = N ∧ valTo O N = valTo A p * valTo B N ∧ AtMost O (p * n2 * 65025) ∧ I64At wr w.heap.size O ∧ w.grownBy wr none) (fun i _ _ => n1 - (intOf i).toNat)
  case atStart =>
    refine ⟨0, List.replicate N 0, by omega, rfl, List.length_replicate, ?_, fun j => ?_, i64_new _ _, World.grownBy_alloc _ _ _⟩
    · rw [valTo_zeros]; simp [valTo]
    · rw [show (List.replicate N 0).getD j 0 = 0 by simp [List.getD, List.getElem?_replicate]; split <;> rfl]; omega
  case round =>
    obtain ⟨p, O, hp, rfl, hOl, hOv, hOb, rO, hg⟩ := hrel
    obtain ⟨W1, rfl⟩ : ∃ W1, W1 = wr := ⟨_, rfl⟩
    have RO := Lib.hid rO
    have HOV := Lib.hid hOv
    have HOB := Lib.hid hOb
    have HOL := Lib.hid hOl
    clear rO hOv hOb hOl
    by_cases hlt : p < n1
    · go_wp2_with fail
      go_loopw [7] (fun j wr => ∃ (q : Nat) (O : List Nat), q ≤ n2 ∧ j = .int .i64 q ∧ O.length = N ∧ valTo O N = valTo A p * valTo B N + A.getD p 0 * 256 ^ p * valTo B q ∧ AtMost O ((p * n2 + q) * 65025) ∧ I64At wr w.heap.size O ∧ w.grownBy wr none) (fun j _ => n2 - (intOf j).toNat)
      case atStart => exact ⟨0, O, by omega, rfl, HOL.out, by rw [HOV.out]; simp [valTo], HOB.out, RO.out, hg⟩
      case round =>
        obtain ⟨q, O, hq, rfl, hOl, hOv, hOb, rO, hg⟩ := hrel
        by_cases hlt2 : q < n2
        · have st := mul_step O A B p q N _ hOl (by have := HN.out; omega) hOv hOb (DA.out p) (DB.out q)
          have ca := (R1.out.grown hg (by simp)).cell p (by rw [HLA.out]; exact hlt)
          have cb := (R2.out.grown hg (by simp)).cell q (by rw [HLB.out]; exact hlt2)
          have co := rO.cell (p + q) (by rw [hOl]; have := HN.out; omega)
          have fo := rO.free (p + q)
          have hcap : (p * n2 + q) * 65025 ≤ 420 * 65025 := Nat.mul_le_mul_right _ (by have := Nat.mul_le_mul (show p ≤ 20 by omega) l2; omega)
          have HM : Hid ((p * n2 + q) * 65025 + 65025 = (p * n2 + (q + 1)) * 65025) := by show _ = _; omega
          have hpN : p + q < N := by have := HN.out; omega
          have RQ := Lib.hid rO
          have HQL := Lib.hid hOl
          obtain ⟨s1, s2, s3, s4⟩ := st
          have ba := DA.out p
          have bb := DB.out q
          have S1 := Lib.hid s1
          have S2 := Lib.hid s2
          generalize A.getD p 0 = a at *
          generalize B.getD q 0 = b at *
          generalize O.getD (p + q) 0 = o at *
          obtain ⟨m, hm⟩ : ∃ m, m = a * b := ⟨_, rfl⟩
          obtain ⟨x, hx⟩ : ∃ x, x = o + m := ⟨_, rfl⟩
          rw [← hm] at s4
          rw [← hm, ← hx] at S1 S2
          have e1 : IntKind.i64.wrap ((a : Int) * (b : Int)) = (m : Int) := by
            have : (a : Int) * (b : Int) = (m : Int) := by rw [hm, Int.natCast_mul]
            rw [this, Go.IntWalk.i64_in _ (by omega)]
          have e2 : IntKind.i64.wrap ((o : Int) + (m : Int)) = (x : Int) := by rw [Go.IntWalk.i64_in _ (by omega)]; omega
          have k0 : IntKind.i64.wrap ((p : Int) + (q : Int)) = (p : Int) + (q : Int) := Go.IntWalk.i64_in _ (by omega)
          have k1 : ((p : Int) + (q : Int)).toNat = p + q := by omega
          have k2 : (0 : Int) ≤ (p : Int) + (q : Int) := by omega
          have k3 : (p : Int) + (q : Int) < (N : Int) := by omega
          have k4 : (0 : Int) ≤ (p : Int) := by omega
          have k5 : (p : Int) < (n1 : Int) := by omega
          have k6 : (0 : Int) ≤ (q : Int) := by omega
          have k7 : (q : Int) < (n2 : Int) := by omega
          clear s1 s2 hOl hOv hOb rO hm hx hcap
          go_wp2_with fail
          refine wp_region_quiet_tail 21 (by kernel_rfl) (by kernel_rfl) ?_
          simp only [List.take_succ_cons, List.take_zero, List.drop_succ_cons, List.drop_zero]
          repeat (quiet_step (fail))
          refine wpQuiet_nil ?_
          intro mm
          go_wp2_with fail
          refine ⟨⟨q + 1, O.set (p + q) x, by omega, rfl, by rw [List.length_set]; exact HQL.out, S1.out, by rw [← HM.out]; exact S2.out, (RQ.out.drewN mm).set (p + q) x (by rw [HQL.out]; exact hpN), grown_setR (w := wr.drewN mm) ⟨hg.os, hg.tape, hg.output, hg.size, hg.block⟩ (Nat.le_refl _) _ _⟩, by simp only [intOf]; omega⟩
        · have hqn : q = n2 := by omega
          subst hqn
          have HV2 : Hid (valTo O N = valTo A (p + 1) * valTo B N) := by
            show _ = _
            rw [hOv, show valTo B q = valTo B N by rw [VB.out, HLB.out]]
            show _ = (valTo A p + A.getD p 0 * 256 ^ p) * valTo B N
            rw [Nat.add_mul]
          have HB2 : Hid (AtMost O ((p + 1) * q * 65025)) := by
            have e : (p + 1) * q = p * q + q := by rw [Nat.add_mul, Nat.one_mul]
            show AtMost _ _
            rw [e]; exact hOb
          have RQ := Lib.hid rO
          have HQL := Lib.hid hOl
          clear hOv hOb rO hOl
          go_wp2_with fail
          exact ⟨⟨p + 1, O, by omega, rfl, HQL.out, HV2.out, HB2.out, RQ.out, hg⟩, by simp only [intOf]; omega⟩
    · have hpn : p = n1 := by omega
      subst hpn
      have hM : p * n2 * 65025 ≤ 26010000 := by
        have := Nat.mul_le_mul l1 l2
        omega
      have hOb2 : AtMost O 26010000 := fun j => Nat.le_trans (HOB.out j) hM
      have HB0 := Lib.hid hOb2
      clear hM hOb2
      have hN1 : 1 ≤ N := by have := HN.out; omega
      go_wp2_with fail
      go_loopw [8] (fun i wr => ∃ (k : Nat) (O : List Nat), k + 1 ≤ N ∧ i = .int .i64 k ∧ O.length = N ∧ valTo O N = valTo A p * valTo B N ∧ (∀ j, j < k → O.getD j 0 < 256) ∧ O.getD k 0 ≤ 52020000 ∧ (∀ j, k < j → O.getD j 0 ≤ 26010000) ∧ I64At wr w.heap.size O ∧ w.grownBy wr none) (fun i _ => N - (intOf i).toNat)
      case atStart => exact ⟨0, O, by omega, rfl, HOL.out, HOV.out, fun j hj => by omega, Nat.le_trans (HB0.out 0) (by omega), fun j _ => HB0.out j, RO.out, hg⟩
      case round =>
        obtain ⟨k, O, hk, rfl, hOl, hOv, hd, hkb, hjb, rO, hg⟩ := hrel
        by_cases hlt2 : k + 1 < N
        · have cs := carry_step O k N hOl hlt2 hd hkb hjb
          have c0 := rO.cell k (by omega)
          have c1 := rO.cell (k + 1) (by omega)
          have f1 := rO.free (k + 1)
          have f0 := rO.free k
          have b1 := hjb (k + 1) (by omega)
          have RQ := Lib.hid rO
          have HQL := Lib.hid hOl
          obtain ⟨s1, s2, s3, s4⟩ := cs
          have S1 := Lib.hid (s1.trans hOv)
          have S2 := Lib.hid s2
          have S3 := Lib.hid s3
          have S4 := Lib.hid s4
          clear s1 s2 s3 s4 hd hjb rO hOl hOv
          have HC0 : Hid ((O.set (k + 1) (O.getD (k + 1) 0 + O.getD k 0 / 256)).getD k 0 = O.getD k 0) := getD_set_far _ _ _ _ (by omega)
          generalize O.getD k 0 = u at *
          generalize O.getD (k + 1) 0 = v at *
          obtain ⟨c, hc⟩ : ∃ c, c = u / 256 := ⟨_, rfl⟩
          obtain ⟨r, hr⟩ : ∃ r, r = u % 256 := ⟨_, rfl⟩
          obtain ⟨x, hx⟩ : ∃ x, x = v + c := ⟨_, rfl⟩
          rw [← hc, ← hx] at HC0
          rw [← hc, ← hr, ← hx] at S1 S2 S3 S4
          have e1 : (u : Int) / 256 = (c : Int) := by omega
          have e2 : (u : Int).tdiv 256 = (c : Int) := by rw [Int.tdiv_eq_ediv_of_nonneg (by omega)]; omega
          have e3 : IntKind.i64.wrap ((v : Int) + (c : Int)) = (x : Int) := by rw [Go.IntWalk.i64_in _ (by omega)]; omega
          have e4 : (u : Int) % 256 = (r : Int) := by omega
          have e5 : (u : Int).tmod 256 = (r : Int) := by rw [Int.tmod_eq_emod_of_nonneg (by omega)]; omega
          have e6 : IntKind.i64.wrap (c : Int) = (c : Int) := Go.IntWalk.i64_in _ (by omega)
          have k0 : IntKind.i64.wrap ((k : Int) + 1) = (k : Int) + 1 := Go.IntWalk.i64_in _ (by omega)
          have k1 : ((k : Int) + 1).toNat = k + 1 := by omega
          have k2 : (0 : Int) ≤ (k : Int) + 1 := by omega
          have k3 : (k : Int) + 1 < (N : Int) := by omega
          have k4 : (0 : Int) ≤ (k : Int) := by omega
          have k5 : (k : Int) < (N : Int) := by omega
          clear hc hr hx
          go_wp2_with fail
          refine wp_region_quiet_tail 15 (by kernel_rfl) (by kernel_rfl) ?_
          simp only [List.take_succ_cons, List.take_zero, List.drop_succ_cons, List.drop_zero]
          repeat (quiet_step (fail))
          refine wpQuiet_nil ?_
          intro mm
          go_wp2_with fail
          refine ⟨⟨k + 1, (O.set (k + 1) x).set k r, by omega, rfl, by rw [List.length_set, List.length_set]; exact HQL.out, S1.out, S2.out, S3.out, S4.out, ?_, ?_⟩, by simp only [intOf]; omega⟩
          · exact ((RQ.out.drewN mm).set (k + 1) x (by rw [HQL.out]; omega)).set k r (by rw [List.length_set, HQL.out]; omega)
          · exact grown_setR (grown_setR (w := wr.drewN mm) ⟨hg.os, hg.tape, hg.output, hg.size, hg.block⟩ (Nat.le_refl _) _ _) (Nat.le_refl _) _ _
        · have hkN : N = k + 1 := by omega
          have hdig : Dig O := by
            have h1 := valTo_lt DA.out p
            have h2 := valTo_lt DB.out n2
            have h3 : valTo A p * valTo B n2 < 256 ^ p * 256 ^ n2 := Nat.mul_lt_mul'' h1 h2
            rw [← Nat.pow_add, ← HN.out, hkN, Nat.pow_succ] at h3
            have h4 : valTo O (k + 1) = valTo O k + O.getD k 0 * 256 ^ k := rfl
            rw [← hkN, hOv, VB.out, HLB.out] at h4
            intro j
            by_cases e : j < k
            · exact hd j e
            · by_cases e2 : j = k
              · rw [e2]
                have h5 : O.getD k 0 * 256 ^ k < 256 * 256 ^ k := by rw [Nat.mul_comm 256]; omega
                exact Nat.lt_of_mul_lt_mul_right h5
              · rw [getD_out O j (by omega)]; decide
          have HOV2 : Hid (valTo O N = valTo A p * valTo B n2) := by
            show _ = _
            rw [hOv, VB.out, HLB.out]
          have HDG := Lib.hid hdig
          have RQ := Lib.hid rO
          have HQL := Lib.hid hOl
          have nlt : ¬ (k : Int) + 1 < (N : Int) := by omega
          clear hdig hd hjb rO hOl hOv hkb hkN
          go_wp2_with fail
          go_ret
          exact ⟨w.heap.size, rfl, O, HQL.out, HDG.out, HOV2.out, RQ.out, Nat.le_refl _, hg⟩
end Go.Proofs.Ytlcimiboalpdkaa

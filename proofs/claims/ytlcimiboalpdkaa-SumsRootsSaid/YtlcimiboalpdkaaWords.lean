/- The walk over the reference's words. -/
import Derived.Test.YtlcimiboalpdkaaNum
import Derived.Test.YtlcimiboalpdkaaTail1
namespace Go.Proofs.Ytlcimiboalpdkaa
open Go.RowKit

/-- Four bytes, the highest one first. -/
def wordAt (l : List UInt8) (j : Nat) : Nat := (l.getD (4 * j) 0).toNat * 16777216 + (l.getD (4 * j + 1) 0).toNat * 65536 + (l.getD (4 * j + 2) 0).toNat * 256 + (l.getD (4 * j + 3) 0).toNat
def words4 (l : List UInt8) (k : Nat) : List Nat := (List.range k).map (wordAt l)
theorem words4_succ (l : List UInt8) (k : Nat) : words4 l (k + 1) = words4 l k ++ [wordAt l k] := by simp [words4, List.range_succ]
theorem words4_length (l : List UInt8) (k : Nat) : (words4 l k).length = k := by simp [words4]
def padN (n : Nat) : Nat := (120 - (n + 1) % 64) % 64
def padZ (l : List UInt8) (z : Nat) : List UInt8 := l ++ [128] ++ List.replicate z 0
theorem padZ_length (l : List UInt8) (z : Nat) : (padZ l z).length = l.length + 1 + z := by simp [padZ]; omega
theorem padZ_succ (l : List UInt8) (z : Nat) : padZ l (z + 1) = padZ l z ++ [0] := by simp [padZ, List.replicate_succ']
def wordsL (l : List UInt8) : List Nat := words4 (padZ l (padN l.length)) ((l.length + 1 + padN l.length) / 4) ++ [l.length * 8 / 4294967296, l.length * 8 % 4294967296]

def padS (s : ByteArray) (z : Nat) : ByteArray := ⟨(padZ s.data.toList z).toArray⟩
theorem padS_size (s : ByteArray) (z : Nat) : (padS s z).size = s.size + 1 + z := by
  show (padZ s.data.toList z).length = _
  rw [padZ_length]; rfl
theorem padS_zero (s : ByteArray) : s ++ ByteArray.mk #[128] = padS s 0 := by
  apply ByteArray.ext
  apply Array.toList_inj.1
  simp [padS, padZ]
theorem padS_succ (s : ByteArray) (z : Nat) : padS s z ++ ByteArray.mk #[0] = padS s (z + 1) := by
  apply ByteArray.ext
  simp only [padS, padZ_succ, ByteArray.data_append]
  simp
theorem padS_get (s : ByteArray) (z i : Nat) (h : i < (padS s z).size) : (padS s z)[i].toNat = ((padZ s.data.toList z).getD i 0).toNat := by
  rw [byteAt_eq]; rfl

set_option maxHeartbeats 1000000 in
theorem words_any (s : ByteArray) (w : World) (hs : s.size ≤ 6000) :
    Calls Try.prog 24 #[.string s] w fun e w' => ∃ v, e = .returned v ∧ w'.ownsRow w.heap.size 41 1 v (wordsL s.data.toList).length (u64s (wordsL s.data.toList)) ∧ w.grownBy w' none := by
  obtain ⟨i41, hi, hz, hsz, hb⟩ := info_parts Try.info41
  obtain ⟨P, hP⟩ : ∃ P, P = padN s.size := ⟨_, rfl⟩
  have hP2 : P = (120 - (s.size + 1) % 64) % 64 := hP
  have lP : P < 64 := by omega
  have hPd : (s.size + 1 + P) % 64 = 56 := by omega
  have HP := Lib.hid hP
  have HP2 := Lib.hid hP2
  have HPd := Lib.hid hPd
  have Z0 := padS_zero s
  have S0 := padS_size s 0
  clear hP hP2 hPd
  go_enter Try.func24, Try.ntmps24
  go_wp2_with fail
  go_loopw [0] (fun v wr => ∃ z : Nat, z ≤ P ∧ v = .string (padS s z) ∧ w = wr) (fun v _ => P + s.size + 1 - (match v with | .string b => b.size | _ => 0))
  case atStart => exact ⟨0, by omega, rfl, rfl⟩
  case round =>
    obtain ⟨z, hzP, rfl, rfl⟩ := hrel
    have Sz := padS_size s z
    by_cases hlt : z < P
    · have S1 := padS_succ s z
      have S2 := padS_size s (z + 1)
      have hm : ¬ ((s.size : Int) + 1 + (z : Int)).tmod 64 = 56 := by rw [Int.tmod_eq_emod_of_nonneg (by omega)]; have := HP2.out; omega
      have hm2 : ¬ ((s.size : Int) + 1 + (z : Int)) % 64 = 56 := by have := HP2.out; omega
      go_wp2_with fail
      refine ⟨⟨z + 1, by omega, rfl, trivial⟩, ?_⟩
      show P + s.size + 1 - (padS s (z + 1)).size < P + s.size + 1 - (padS s z).size
      rw [S2, Sz]; omega
    · have hzP2 : z = P := by omega
      subst hzP2
      have hm : ((s.size : Int) + 1 + (z : Int)).tmod 64 = 56 := by rw [Int.tmod_eq_emod_of_nonneg (by omega)]; have := HPd.out; omega
      have hm2 : ((s.size : Int) + 1 + (z : Int)) % 64 = 56 := by have := HPd.out; omega
      have hget := fun i h => padS_get s z i h
      obtain ⟨B, hB⟩ : ∃ B, B = padS s z := ⟨_, rfl⟩
      rw [← hB] at Sz hget
      rw [← hB]
      obtain ⟨l0, hl0⟩ : ∃ l, l = padZ s.data.toList z := ⟨_, rfl⟩
      rw [← hl0] at hget
      obtain ⟨J, hJ⟩ : ∃ J, J = (s.size + 1 + z) / 4 := ⟨_, rfl⟩
      have hJ4 : B.size = 4 * J := by have := HPd.out; omega
      have HJ := Lib.hid hJ
      have HL0 := Lib.hid hl0
      have HSz := Lib.hid Sz
      have lJ : J < 2000 := by omega
      have HG : Hid (∀ i (h : i < B.size), B[i].toNat = (l0.getD i 0).toNat) := hget
      clear hJ hl0 hB hget Z0 S0
      go_wp2_with fail
      clear hm hm2 Sz
      go_loopw [4, 5] (fun v i wr => ∃ (j : Nat) (v' : Value), j ≤ J ∧ i = .int .i64 (4 * j) ∧ v' = v ∧ wr.ownsRow w.heap.size 41 1 v' j (u64s (words4 l0 j)) ∧ w.grownBy wr none) (fun _ i _ => 4 * J - (intOf i).toNat)
      case atStart => exact ⟨0, _, by omega, rfl, rfl, World.ownsRow_nil _ _ _ _, ⟨rfl, rfl, rfl, Nat.le_refl _, fun _ _ _ => rfl⟩⟩
      case round =>
        obtain ⟨j, v, hj, rfl, rfl, hown, hg⟩ := hrel
        by_cases hlj : j < J
        · obtain ⟨x0, hx0⟩ : ∃ x, x = (l0.getD (4 * j) 0).toNat := ⟨_, rfl⟩
          obtain ⟨x1, hx1⟩ : ∃ x, x = (l0.getD (4 * j + 1) 0).toNat := ⟨_, rfl⟩
          obtain ⟨x2, hx2⟩ : ∃ x, x = (l0.getD (4 * j + 2) 0).toNat := ⟨_, rfl⟩
          obtain ⟨x3, hx3⟩ : ∃ x, x = (l0.getD (4 * j + 3) 0).toNat := ⟨_, rfl⟩
          have r0 : 4 * j < B.size := by omega
          have r1 : 4 * j + 1 < B.size := by omega
          have r2 : 4 * j + 2 < B.size := by omega
          have r3 : 4 * j + 3 < B.size := by omega
          have b0 : B[4 * j].toNat = x0 := by rw [hx0]; exact HG.out _ r0
          have b1 : B[4 * j + 1].toNat = x1 := by rw [hx1]; exact HG.out _ r1
          have b2 : B[4 * j + 2].toNat = x2 := by rw [hx2]; exact HG.out _ r2
          have b3 : B[4 * j + 3].toNat = x3 := by rw [hx3]; exact HG.out _ r3
          have l0' : x0 < 256 := by rw [hx0]; exact UInt8.toNat_lt _
          have l1' : x1 < 256 := by rw [hx1]; exact UInt8.toNat_lt _
          have l2' : x2 < 256 := by rw [hx2]; exact UInt8.toNat_lt _
          have l3' : x3 < 256 := by rw [hx3]; exact UInt8.toNat_lt _
          have HW : Hid (words4 l0 (j + 1) = words4 l0 j ++ [x0 * 16777216 + x1 * 65536 + x2 * 256 + x3]) := by
            show _ = _
            rw [words4_succ, wordAt, hx0, hx1, hx2, hx3]
          clear hx0 hx1 hx2 hx3
          have w1 : IntKind.i64.wrap (4 * (j : Int) + 1) = 4 * (j : Int) + 1 := Go.IntWalk.i64_in _ (by omega)
          have w2 : IntKind.i64.wrap (4 * (j : Int) + 2) = 4 * (j : Int) + 2 := Go.IntWalk.i64_in _ (by omega)
          have w3 : IntKind.i64.wrap (4 * (j : Int) + 3) = 4 * (j : Int) + 3 := Go.IntWalk.i64_in _ (by omega)
          have t0 : (4 * (j : Int)).toNat = 4 * j := by omega
          have t1 : (4 * (j : Int) + 1).toNat = 4 * j + 1 := by omega
          have t2 : (4 * (j : Int) + 2).toNat = 4 * j + 2 := by omega
          have t3 : (4 * (j : Int) + 3).toNat = 4 * j + 3 := by omega
          have y0 : (0 : Int) ≤ 4 * (j : Int) := by omega
          have y1 : (0 : Int) ≤ 4 * (j : Int) + 1 := by omega
          have y2 : (0 : Int) ≤ 4 * (j : Int) + 2 := by omega
          have y3 : (0 : Int) ≤ 4 * (j : Int) + 3 := by omega
          have q0 : 4 * (j : Int) < (B.size : Int) := by omega
          have q1 : 4 * (j : Int) + 1 < (B.size : Int) := by omega
          have q2 : 4 * (j : Int) + 2 < (B.size : Int) := by omega
          have q3 : 4 * (j : Int) + 3 < (B.size : Int) := by omega
          have a0 : IntKind.u64.wrap (x0 : Int) = (x0 : Int) := Go.IntWalk.u64_in _ (by omega)
          have a1 : IntKind.u64.wrap (x1 : Int) = (x1 : Int) := Go.IntWalk.u64_in _ (by omega)
          have a2 : IntKind.u64.wrap (x2 : Int) = (x2 : Int) := Go.IntWalk.u64_in _ (by omega)
          have a3 : IntKind.u64.wrap (x3 : Int) = (x3 : Int) := Go.IntWalk.u64_in _ (by omega)
          have m0 : IntKind.u64.wrap ((x0 : Int) * 16777216) = (x0 : Int) * 16777216 := Go.IntWalk.u64_in _ (by omega)
          have m1 : IntKind.u64.wrap ((x1 : Int) * 65536) = (x1 : Int) * 65536 := Go.IntWalk.u64_in _ (by omega)
          have m2 : IntKind.u64.wrap ((x2 : Int) * 256) = (x2 : Int) * 256 := Go.IntWalk.u64_in _ (by omega)
          have s1 : IntKind.u64.wrap ((x0 : Int) * 16777216 + (x1 : Int) * 65536) = (x0 : Int) * 16777216 + (x1 : Int) * 65536 := Go.IntWalk.u64_in _ (by omega)
          have s2 : IntKind.u64.wrap ((x0 : Int) * 16777216 + (x1 : Int) * 65536 + (x2 : Int) * 256) = (x0 : Int) * 16777216 + (x1 : Int) * 65536 + (x2 : Int) * 256 := Go.IntWalk.u64_in _ (by omega)
          have s3 : IntKind.u64.wrap ((x0 : Int) * 16777216 + (x1 : Int) * 65536 + (x2 : Int) * 256 + (x3 : Int)) = ((x0 * 16777216 + x1 * 65536 + x2 * 256 + x3 : Nat) : Int) := by rw [Go.IntWalk.u64_in _ (by omega)]; omega
          obtain ⟨Y, hY⟩ : ∃ Y, Y = x0 * 16777216 + x1 * 65536 + x2 * 256 + x3 := ⟨_, rfl⟩
          rw [← hY] at s3 HW
          clear hY
          have HJ4 := Lib.hid hJ4
          clear hJ4
          go_wp2_with fail
          refine wp_region_move_quiet_tail 26 (by kernel_rfl) (by kernel_rfl) _ (.tmp 4) rfl rfl rfl (fun _ _ _ _ h => h) ?_
          simp only [List.take_succ_cons, List.take_zero, List.drop_succ_cons, List.drop_zero]
          repeat (quiet_step (fail))
          refine wpQuiet_nil ?_
          intro m
          have KP : (wr.drewN m).ownsRow w.heap.size 41 1 v j (u64s (words4 l0 j)) ∧ w.grownBy (wr.drewN m) none := ⟨hown, ⟨hg.os, hg.tape, hg.output, hg.size, hg.block⟩⟩
          generalize wr.drewN m = W2 at *
          go_wp2_with (at_builtin; refine wpList_append_own _ rfl (.tmp 25) (.tmp 51) 25 rfl w.heap.size 41 i41 (.int .u64 0) 1 8 Try.underlying25 hi hz hsz hb rfl (by decide) v _ _ rfl (World.ownsRow.alloc KP.1 _) ⟨W2.heap.size, 0, none⟩ 1 1 [_] rfl rfl (cell_new_of _ _ _ _ rfl) ?_ ?_ ?_ ?_ ?_)
          · intro u hu; have := List.mem_singleton.1 hu; subst this; rfl
          · unfold maxLen; omega
          · omega
          · have := KP.2.size; simp; omega
          intro v' w4 hown4 hg4 _
          have hg5 := grown_own KP.1 (grown_alloc KP.2 _) hg4
          have HO : Hid (w4.ownsRow w.heap.size 41 1 v' (j + 1) (u64s (words4 l0 (j + 1)))) := by
            show World.ownsRow _ _ _ _ _ _ _
            rw [HW.out, u64s_append]; exact hown4
          clear hown4 hg4 KP
          go_wp2_with fail
          refine ⟨⟨j + 1, _, by omega, by congr 1, rfl, HO.out, hg5⟩, by simp only [intOf]; omega⟩
        · have hjJ : j = J := by omega
          subst hjJ
          obtain ⟨q, hq⟩ : ∃ q, q = s.size * 8 / 4294967296 := ⟨_, rfl⟩
          obtain ⟨r, hr⟩ : ∃ r, r = s.size * 8 % 4294967296 := ⟨_, rfl⟩
          have q1 : (8 * (s.size : Int)) / 4294967296 = (q : Int) := by omega
          have q2 : (8 * (s.size : Int)).tdiv 4294967296 = (q : Int) := by rw [Int.tdiv_eq_ediv_of_nonneg (by omega)]; omega
          have LW : Hid (∀ u : World, Calls Try.prog 25 #[.int .u64 (8 * (s.size : Int))] u fun e w' => e = .returned (.int .u64 (r : Nat)) ∧ u = w') := fun u => by
            have h := low_any (s.size * 8) u
            rw [← hr, show ((s.size * 8 : Nat) : Int) = 8 * (s.size : Int) by omega] at h
            exact h
          have HQ := Lib.hid hq
          have HR := Lib.hid hr
          clear hq hr
          go_wp2_with fail
          refine (LW.out _).mono ?_
          rintro e w3 ⟨rfl, rfl⟩
          go_wp2_with (at_builtin; refine wpList_append_own _ rfl (.tmp 53) (.tmp 58) 25 rfl w.heap.size 41 i41 (.int .u64 0) 1 8 Try.underlying25 hi hz hsz hb rfl (by decide) v _ _ rfl (World.ownsRow.alloc hown _) ⟨wr.heap.size, 0, none⟩ 2 2 [_, _] rfl rfl (World.news_of_block (heap_alloc_new _ _)) ?_ ?_ ?_ ?_ ?_)
          · intro u hu; simp at hu; rcases hu with rfl | rfl <;> rfl
          · unfold maxLen; omega
          · omega
          · have := hg.size; simp; omega
          intro v' w4 hown4 hg4 _
          have hg5 := grown_own hown (grown_alloc hg _) hg4
          have HO : Hid (w4.ownsRow w.heap.size 41 1 v' (wordsL s.data.toList).length (u64s (wordsL s.data.toList))) := by
            have e : wordsL s.data.toList = words4 l0 j ++ [q, r] := by
              rw [HL0.out, HQ.out, HR.out]
              unfold wordsL
              have e1 : s.data.toList.length = s.size := rfl
              rw [e1, ← HP.out, ← HJ.out]
            show World.ownsRow _ _ _ _ _ _ _
            rw [e, u64s_append, List.length_append, words4_length]; exact hown4
          clear hown4 hg4 hown
          go_wp2_with fail
          go_ret
          exact ⟨_, rfl, HO.out, hg5⟩
end Go.Proofs.Ytlcimiboalpdkaa

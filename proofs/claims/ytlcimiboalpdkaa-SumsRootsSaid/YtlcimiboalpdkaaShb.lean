/- The printer's answer is the reference's: whole texts. -/
import Derived.Test.YtlcimiboalpdkaaSha
namespace Go.Proofs.Ytlcimiboalpdkaa

theorem block_words (P : List UInt8) (n i : Nat) (hP : P.length = 64 * n) (hi : i < n) : words4 ((P.drop (64 * i)).take 64) 16 = blockW (words4 P (16 * n)) i := by
  unfold blockW
  apply List.ext_getElem
  · rw [words4_length, List.length_take, List.length_drop, words4_length]; omega
  · intro j h1 h2
    rw [words4_length] at h1
    simp only [words4, List.getElem_map, List.getElem_range, List.getElem_take, List.getElem_drop]
    have e : ∀ m, m < 64 → ((P.drop (64 * i)).take 64).getD m 0 = P.getD (64 * i + m) 0 := by
      intro m hm
      simp [List.getD, List.getElem?_take, hm]
    unfold wordAt
    rw [e _ (by omega), e _ (by omega), e _ (by omega), e _ (by omega)]
    rw [show 64 * i + 4 * j = 4 * (16 * i + j) by omega, show 64 * i + (4 * j + 1) = 4 * (16 * i + j) + 1 by omega, show 64 * i + (4 * j + 2) = 4 * (16 * i + j) + 2 by omega, show 64 * i + (4 * j + 3) = 4 * (16 * i + j) + 3 by omega]

theorem end_h (s : Prt) (W : List Nat) : ({ ({ s with w := W, n := 64 } : Prt).stirred with n := 0 } : Prt).h = addH (rounds 64 (regsOf s.h) W).1.list 8 s.h := by simp only [Prt.stirred]
theorem end_w (s : Prt) (W : List Nat) : ({ ({ s with w := W, n := 64 } : Prt).stirred with n := 0 } : Prt).w = (rounds 64 (regsOf s.h) W).2 := by simp only [Prt.stirred]
theorem end_n (s : Prt) (W : List Nat) : ({ ({ s with w := W, n := 64 } : Prt).stirred with n := 0 } : Prt).n = 0 := by simp only [Prt.stirred]
theorem refHs_succ (A K H : List Nat) (i : Nat) : refHs A K H (i + 1) = addH (refRounds (expL (blockW A i) 48) K (regsOf (refHs A K H i)) 64).list 8 (refHs A K H i) := by unfold refHs; cases i <;> exact Eq.refl _
theorem kList_eq : kList0 = kList := by unfold kList0 kList; exact Eq.refl _
theorem puts_blocks (P : List UInt8) (n : Nat) (hP : P.length = 64 * n) (i : Nat) (hi : i ≤ n) :
    (prt0.puts (P.take (64 * i))).h = refHs (words4 P (16 * n)) kList sq8 i ∧ (prt0.puts (P.take (64 * i))).n = 0 ∧ (prt0.puts (P.take (64 * i))).w.length = 16 := by
  induction i with
  | zero => exact ⟨rfl, rfl, rfl⟩
  | succ i ih =>
    obtain ⟨h1, h2, h3⟩ := ih (by omega)
    have et : P.take (64 * (i + 1)) = P.take (64 * i) ++ (P.drop (64 * i)).take 64 := by
      rw [show 64 * (i + 1) = 64 * i + 64 by omega, List.take_add]
    rw [et, Prt.puts_append]
    generalize prt0.puts (P.take (64 * i)) = s at *
    rw [puts_block s h2 h3 _ (by rw [List.length_take, List.length_drop]; omega), block_words P n i hP (by omega)]
    have hl : (blockW (words4 P (16 * n)) i).length = 16 := blockW_length (by rw [words4_length]; omega)
    have hr := rounds_ref (blockW (words4 P (16 * n)) i) hl (regsOf s.h) 64 (Nat.le_refl _)
    refine ⟨?_, end_n _ _, ?_⟩
    · rw [end_h, hr.1, h1, refHs_succ, kList_eq]
    · rw [end_w]; exact hr.2.1

theorem padded_eq (l : List UInt8) : padded l = padZ l (padN l.length) ++ (List.range 8).map (lenB l.length) := rfl
theorem pad_mod (n : Nat) : (n + 1 + padN n) % 64 = 56 := by unfold padN; omega
/-- How many blocks. -/
def nBlk (n : Nat) : Nat := (n + 1 + padN n) / 64 + 1
theorem padded_length (l : List UInt8) : (padded l).length = 64 * nBlk l.length := by
  rw [padded_eq, List.length_append, padZ_length]
  have := pad_mod l.length
  unfold nBlk
  simp
  omega
theorem wordsL_length (l : List UInt8) : (wordsL l).length = 16 * nBlk l.length := by
  unfold wordsL
  rw [List.length_append, words4_length]
  have := pad_mod l.length
  unfold nBlk
  simp
  omega
theorem lenB_nat (n j : Nat) : (lenB n j).toNat = n * 8 / 2 ^ (56 - 8 * j) % 256 := by
  unfold lenB
  rw [UInt8.toNat_ofNat']
  omega
theorem lw1 (n : Nat) (h : n ≤ 6000) : (lenB n 0).toNat * 16777216 + (lenB n 1).toNat * 65536 + (lenB n 2).toNat * 256 + (lenB n 3).toNat = n * 8 / 4294967296 := by
  simp only [lenB_nat, Nat.reduceMul, Nat.reduceSub, Nat.reducePow]
  omega
theorem lw2 (n : Nat) (h : n ≤ 6000) : (lenB n 4).toNat * 16777216 + (lenB n 5).toNat * 65536 + (lenB n 6).toNat * 256 + (lenB n 7).toNat = n * 8 % 4294967296 := by
  simp only [lenB_nat, Nat.reduceMul, Nat.reduceSub, Nat.reducePow]
  omega
theorem wordsL_eq (l : List UInt8) (hl : l.length ≤ 6000) : wordsL l = words4 (padded l) (16 * nBlk l.length) := by
  have hm := pad_mod l.length
  obtain ⟨q, hq⟩ : ∃ q, q = (l.length + 1 + padN l.length) / 64 := ⟨_, rfl⟩
  have hlen : (padZ l (padN l.length)).length = 64 * q + 56 := by rw [padZ_length]; omega
  have e1 : (l.length + 1 + padN l.length) / 4 = 16 * q + 14 := by omega
  have e2 : 16 * nBlk l.length = 16 * q + 14 + 1 + 1 := by unfold nBlk; omega
  have pre : ∀ m, m < 64 * q + 56 → (padded l).getD m 0 = (padZ l (padN l.length)).getD m 0 := by
    intro m hm
    rw [padded_eq]
    simp only [List.getD_eq_getElem?_getD]
    rw [List.getElem?_append_left (by rw [hlen]; exact hm)]
  have suf : ∀ m, m < 8 → (padded l).getD (64 * q + 56 + m) 0 = lenB l.length m := by
    intro m hm
    rw [padded_eq]
    simp only [List.getD_eq_getElem?_getD]
    rw [List.getElem?_append_right (by rw [hlen]; omega), hlen, show 64 * q + 56 + m - (64 * q + 56) = m by omega]
    simp [hm]
  have hA : words4 (padZ l (padN l.length)) (16 * q + 14) = words4 (padded l) (16 * q + 14) := by
    unfold words4
    apply List.map_congr_left
    intro j hj
    have hj' := List.mem_range.1 hj
    unfold wordAt
    rw [pre _ (by omega), pre _ (by omega), pre _ (by omega), pre _ (by omega)]
  have w1 : wordAt (padded l) (16 * q + 14) = l.length * 8 / 4294967296 := by
    unfold wordAt
    rw [show 4 * (16 * q + 14) = 64 * q + 56 + 0 by omega, suf 0 (by omega), show 64 * q + 56 + 0 + 1 = 64 * q + 56 + 1 by omega, suf 1 (by omega), show 64 * q + 56 + 0 + 2 = 64 * q + 56 + 2 by omega, suf 2 (by omega), show 64 * q + 56 + 0 + 3 = 64 * q + 56 + 3 by omega, suf 3 (by omega)]
    exact lw1 _ hl
  have w2 : wordAt (padded l) (16 * q + 14 + 1) = l.length * 8 % 4294967296 := by
    unfold wordAt
    rw [show 4 * (16 * q + 14 + 1) = 64 * q + 56 + 4 by omega, suf 4 (by omega), show 64 * q + 56 + 4 + 1 = 64 * q + 56 + 5 by omega, suf 5 (by omega), show 64 * q + 56 + 4 + 2 = 64 * q + 56 + 6 by omega, suf 6 (by omega), show 64 * q + 56 + 4 + 3 = 64 * q + 56 + 7 by omega, suf 7 (by omega)]
    exact lw2 _ hl
  rw [e2, words4_succ, words4_succ, List.append_assoc, w1, w2, ← hA, List.cons_append, List.nil_append, wordsL, e1]

/-- The fingerprint is the reference's. -/
theorem printed_ref (s : ByteArray) (hs : s.size ≤ 6000) : printed s = ⟨(outL (refHs (wordsL s.data.toList) kList sq8 (nBlk s.size))).toArray⟩ := by
  have hl : s.data.toList.length = s.size := rfl
  have hP := padded_length s.data.toList
  have h := puts_blocks (padded s.data.toList) (nBlk s.data.toList.length) hP (nBlk s.data.toList.length) (Nat.le_refl _)
  rw [← hP, List.take_length] at h
  unfold printed
  rw [h.1, wordsL_eq _ (by rw [hl]; exact hs), hl]
theorem wordAt_lt (l : List UInt8) (j : Nat) : wordAt l j < 4294967296 := by
  unfold wordAt
  have h0 := (l.getD (4 * j) 0).toNat_lt
  have h1 := (l.getD (4 * j + 1) 0).toNat_lt
  have h2 := (l.getD (4 * j + 2) 0).toNat_lt
  have h3 := (l.getD (4 * j + 3) 0).toNat_lt
  omega
theorem wordsL_lt (s : ByteArray) (hs : s.size ≤ 6000) : Lt32 (wordsL s.data.toList) := by
  rw [wordsL_eq _ hs]
  refine Lt32.of_mem fun x hx => ?_
  obtain ⟨j, _, rfl⟩ := List.mem_map.1 hx
  exact wordAt_lt _ _
theorem nBlk_pos (n : Nat) (h : n ≤ 6000) : 0 < nBlk n ∧ nBlk n < 2000 := by unfold nBlk padN; omega
end Go.Proofs.Ytlcimiboalpdkaa

/- The printer's answer is the reference's: plain law. -/
import Derived.Test.YtlcimiboalpdkaaRow
namespace Go.Proofs.Ytlcimiboalpdkaa

def kList0 : List Nat := (List.range 64).map kOf
theorem getD_map_range (f : Nat → Nat) (n t : Nat) (h : t < n) : ((List.range n).map f).getD t 0 = f t := by simp [List.getD, h]

/-! The window that rolls. -/
theorem expL_prefix (W : List Nat) (a b j : Nat) (hab : a ≤ b) (hj : j < W.length + a) : (expL W b).getD j 0 = (expL W a).getD j 0 := by
  induction b with
  | zero => rw [show a = 0 by omega]
  | succ b ih =>
    by_cases e : a = b + 1
    · rw [e]
    · rw [← ih (by omega)]
      simp only [expL, List.getD_eq_getElem?_getD]
      rw [List.getElem?_append_left (by rw [expL_length]; omega)]
theorem expL_next (W : List Nat) (hW : W.length = 16) (k n : Nat) (h : k < n) : (expL W n).getD (16 + k) 0 = expV (expL W n) k := by
  have hl := expL_length W k
  rw [expL_prefix W (k + 1) n (16 + k) (by omega) (by omega)]
  have e : (expL W (k + 1)).getD (16 + k) 0 = expV (expL W k) k := by
    simp only [expL, List.getD_eq_getElem?_getD]
    rw [List.getElem?_append_right (by rw [hl, hW]; exact Nat.le_refl _), hl, hW, Nat.sub_self, List.getElem?_cons_zero, Option.getD_some]
  rw [e]
  have q0 := expL_prefix W k n k (by omega) (by omega)
  have q1 := expL_prefix W k n (k + 1) (by omega) (by omega)
  have q9 := expL_prefix W k n (k + 9) (by omega) (by omega)
  have q14 := expL_prefix W k n (k + 14) (by omega) (by omega)
  simp only [expV, q0, q1, q9, q14]

theorem later_exp (w : List Nat) (t a b c d : Nat) (_u : Nat) (ha : t % 16 = a) (hb : (t + 1) % 16 = b) (hc : (t + 9) % 16 = c) (hd : (t + 14) % 16 = d) :
    laterV w t = (w.getD a 0 + spread3 (w.getD b 0) 7 18 3 + w.getD c 0 + spread3 (w.getD d 0) 17 19 10) % 4294967296 := by
  unfold laterV
  rw [ha, hb, hc, hd]
  generalize w.getD a 0 = x0
  generalize spread3 (w.getD b 0) 7 18 3 = x1
  generalize w.getD c 0 = x2
  generalize spread3 (w.getD d 0) 17 19 10 = x3
  rw [show x0 + (x1 + x2 + x3) = x0 + x1 + x2 + x3 by omega]
theorem expV_eq (E : List Nat) (t : Nat) : expV E t = (E.getD t 0 + spread3 (E.getD (t + 1) 0) 7 18 3 + E.getD (t + 9) 0 + spread3 (E.getD (t + 14) 0) 17 19 10) % 4294967296 := by unfold expV; exact Eq.refl _
theorem getD_set_eq (l : List Nat) (i v : Nat) (h : i < l.length) : (l.set i v).getD i 0 = v := by simp [List.getD, h]
theorem getD_set_ne' (l : List Nat) (i j v : Nat) (h : i ≠ j) : (l.set i v).getD j 0 = l.getD j 0 := by simp [List.getD, List.getElem?_set_ne h]

theorem rounds_ref (W : List Nat) (hW : W.length = 16) (r : Regs) (t : Nat) (ht : t ≤ 64) :
    (rounds t r W).1 = refRounds (expL W 48) kList0 r t ∧ (rounds t r W).2.length = 16 ∧
      ∀ m, (t ≤ 16 → m < 16) → (16 ≤ t → m < t ∧ t ≤ m + 16) → (rounds t r W).2.getD (m % 16) 0 = (expL W 48).getD m 0 := by
  induction t with
  | zero =>
    refine ⟨rfl, hW, fun m h1 _ => ?_⟩
    have hm := h1 (by omega)
    rw [Nat.mod_eq_of_lt hm, expL_prefix W 0 48 m (by omega) (by omega)]
    rfl
  | succ t ih =>
    obtain ⟨i1, i2, i3⟩ := ih (by omega)
    simp only [rounds, refRounds]
    generalize hwl : (rounds t r W).2 = wl at *
    have hw : wOf wl t = (expL W 48).getD t 0 := by
      unfold wOf
      by_cases h : 15 < t
      · rw [if_pos h]
        obtain ⟨k, rfl⟩ : ∃ k, t = 16 + k := ⟨t - 16, by omega⟩
        rw [expL_next W hW k 48 (by omega)]
        have a0 := i3 k (by omega) (by omega)
        have a1 := i3 (k + 1) (by omega) (by omega)
        have a9 := i3 (k + 9) (by omega) (by omega)
        have a14 := i3 (k + 14) (by omega) (by omega)
        rw [later_exp _ _ _ _ _ _ 0 (show (16 + k) % 16 = k % 16 by omega) (show (16 + k + 1) % 16 = (k + 1) % 16 by omega) (show (16 + k + 9) % 16 = (k + 9) % 16 by omega) (show (16 + k + 14) % 16 = (k + 14) % 16 by omega), a0, a1, a9, a14]
        exact (expV_eq _ _).symm
      · rw [if_neg h]
        exact i3 t (by omega) (by omega)
    have hs : wSet wl t = if 15 < t then wl.set (t % 16) ((expL W 48).getD t 0) else wl := by
      unfold wSet
      by_cases h : 15 < t
      · rw [if_pos h, if_pos h, ← hw]
        unfold wOf
        rw [if_pos h]
      · rw [if_neg h, if_neg h]
    refine ⟨?_, ?_, ?_⟩
    · rw [i1, hw, kList0, getD_map_range kOf 64 t (by omega)]
    · rw [hs]; split
      · rw [List.length_set]; exact i2
      · exact i2
    · intro m h1 h2
      rw [hs]
      by_cases h : 15 < t
      · rw [if_pos h]
        by_cases e : m = t
        · rw [e, getD_set_eq _ _ _ (by rw [i2]; omega)]
        · have h2' := h2 (by omega)
          rw [getD_set_ne' _ _ _ _ (by omega)]
          exact i3 m (by omega) (by omega)
      · rw [if_neg h]
        exact i3 m (by omega) (by omega)

/-! Four bytes, and a block. -/
theorem push4 (x c0 c1 c2 c3 : Nat) (h0 : c0 < 256) (h1 : c1 < 256) (h2 : c2 < 256) (h3 : c3 < 256) :
    pushB (pushB (pushB (pushB x c0) c1) c2) c3 = c0 * 16777216 + c1 * 65536 + c2 * 256 + c3 := by
  unfold pushB
  omega
theorem set_set (l : List Nat) (i a b : Nat) : (l.set i a).set i b = l.set i b := by simp
theorem put4 (s : Prt) (i c0 c1 c2 c3 : Nat) (hn : s.n = 4 * i) (hi : i < 15) (hw : s.w.length = 16) (h0 : c0 < 256) (h1 : c1 < 256) (h2 : c2 < 256) (h3 : c3 < 256) :
    (((s.put c0).put c1).put c2).put c3 = { s with w := s.w.set i (c0 * 16777216 + c1 * 65536 + c2 * 256 + c3), n := 4 * i + 4 } := by
  obtain ⟨h, w, n⟩ := s
  simp only at hn hw
  subst hn
  have e0 : (⟨h, w, 4 * i⟩ : Prt).put c0 = ⟨h, w.set i (pushB (w.getD i 0) c0), 4 * i + 1⟩ := by
    unfold Prt.put Prt.put1
    simp only
    rw [if_neg (by omega), show 4 * i / 4 = i by omega]
  have e1 : ∀ x, (⟨h, w.set i x, 4 * i + 1⟩ : Prt).put c1 = ⟨h, w.set i (pushB x c1), 4 * i + 2⟩ := by
    intro x
    unfold Prt.put Prt.put1
    simp only
    rw [if_neg (by omega), show (4 * i + 1) / 4 = i by omega, getD_set_eq _ _ _ (by omega), set_set]
  have e2 : ∀ x, (⟨h, w.set i x, 4 * i + 2⟩ : Prt).put c2 = ⟨h, w.set i (pushB x c2), 4 * i + 3⟩ := by
    intro x
    unfold Prt.put Prt.put1
    simp only
    rw [if_neg (by omega), show (4 * i + 2) / 4 = i by omega, getD_set_eq _ _ _ (by omega), set_set]
  have e3 : ∀ x, (⟨h, w.set i x, 4 * i + 3⟩ : Prt).put c3 = ⟨h, w.set i (pushB x c3), 4 * i + 4⟩ := by
    intro x
    unfold Prt.put Prt.put1
    simp only
    rw [if_neg (by omega), show (4 * i + 3) / 4 = i by omega, getD_set_eq _ _ _ (by omega), set_set]
  rw [e0, e1, e2, e3, push4 _ _ _ _ _ h0 h1 h2 h3]
theorem put4_last (s : Prt) (c0 c1 c2 c3 : Nat) (hn : s.n = 60) (hw : s.w.length = 16) (h0 : c0 < 256) (h1 : c1 < 256) (h2 : c2 < 256) (h3 : c3 < 256) :
    (((s.put c0).put c1).put c2).put c3 = { ({ s with w := s.w.set 15 (c0 * 16777216 + c1 * 65536 + c2 * 256 + c3), n := 64 } : Prt).stirred with n := 0 } := by
  obtain ⟨h, w, n⟩ := s
  simp only at hn hw
  subst hn
  have e0 : (⟨h, w, 60⟩ : Prt).put c0 = ⟨h, w.set 15 (pushB (w.getD 15 0) c0), 61⟩ := by
    unfold Prt.put Prt.put1
    simp only
    rw [if_neg (by decide)]
  have e1 : ∀ x, (⟨h, w.set 15 x, 61⟩ : Prt).put c1 = ⟨h, w.set 15 (pushB x c1), 62⟩ := by
    intro x
    unfold Prt.put Prt.put1
    simp only
    rw [if_neg (by decide), getD_set_eq _ _ _ (by omega), set_set]
  have e2 : ∀ x, (⟨h, w.set 15 x, 62⟩ : Prt).put c2 = ⟨h, w.set 15 (pushB x c2), 63⟩ := by
    intro x
    unfold Prt.put Prt.put1
    simp only
    rw [if_neg (by decide), getD_set_eq _ _ _ (by omega), set_set]
  have e3 : ∀ x, (⟨h, w.set 15 x, 63⟩ : Prt).put c3 = { (⟨h, w.set 15 (pushB x c3), 64⟩ : Prt).stirred with n := 0 } := by
    intro x
    unfold Prt.put
    rw [if_pos rfl]
    unfold Prt.put1
    simp only
    rw [getD_set_eq _ _ _ (by omega), set_set]
  rw [e0, e1, e2, e3, push4 _ _ _ _ _ h0 h1 h2 h3]
theorem Prt.puts_append (s : Prt) (l m : List UInt8) : s.puts (l ++ m) = (s.puts l).puts m := by simp [Prt.puts]
theorem getD_of (B : List UInt8) (j : Nat) (h : j < B.length) : B.getD j 0 = B[j] := by simp [List.getD, h]
theorem puts_four (s : Prt) (a b c d : UInt8) : s.puts [a, b, c, d] = (((s.put a.toNat).put b.toNat).put c.toNat).put d.toNat := rfl
theorem take4 (B : List UInt8) (i : Nat) (h : 4 * i + 4 ≤ B.length) : B.take (4 * (i + 1)) = B.take (4 * i) ++ [B.getD (4 * i) 0, B.getD (4 * i + 1) 0, B.getD (4 * i + 2) 0, B.getD (4 * i + 3) 0] := by
  rw [show 4 * (i + 1) = 4 * i + 1 + 1 + 1 + 1 by omega]
  rw [List.take_succ_eq_append_getElem (by omega), List.take_succ_eq_append_getElem (by omega), List.take_succ_eq_append_getElem (by omega), List.take_succ_eq_append_getElem (by omega)]
  rw [getD_of B (4 * i) (by omega), getD_of B (4 * i + 1) (by omega), getD_of B (4 * i + 2) (by omega), getD_of B (4 * i + 3) (by omega)]
  simp only [List.append_assoc, List.cons_append, List.nil_append]
theorem puts_words (s : Prt) (hn : s.n = 0) (hw : s.w.length = 16) (B : List UInt8) (hB : B.length = 64) (i : Nat) (hi : i ≤ 15) :
    s.puts (B.take (4 * i)) = { s with w := words4 B i ++ s.w.drop i, n := 4 * i } := by
  induction i with
  | zero =>
    obtain ⟨h, w, n⟩ := s
    simp only at hn
    subst hn
    rfl
  | succ i ih =>
    rw [take4 B i (by omega), Prt.puts_append, ih (by omega)]
    rw [puts_four, put4 _ i _ _ _ _ rfl (by omega) (by simp [words4, hw]; omega) (UInt8.toNat_lt _) (UInt8.toNat_lt _) (UInt8.toNat_lt _) (UInt8.toNat_lt _)]
    have e : (words4 B i ++ s.w.drop i).set i ((B.getD (4 * i) 0).toNat * 16777216 + (B.getD (4 * i + 1) 0).toNat * 65536 + (B.getD (4 * i + 2) 0).toNat * 256 + (B.getD (4 * i + 3) 0).toNat) = words4 B (i + 1) ++ s.w.drop (i + 1) := by
      rw [List.set_append_right _ _ (by rw [words4_length]; exact Nat.le_refl _), words4_length, Nat.sub_self, words4_succ, List.append_assoc]
      congr 1
      rw [List.drop_eq_getElem_cons (by omega)]
      rfl
    simp only at e ⊢
    rw [e]
    rfl
theorem puts_block (s : Prt) (hn : s.n = 0) (hw : s.w.length = 16) (B : List UInt8) (hB : B.length = 64) :
    s.puts B = { ({ s with w := words4 B 16, n := 64 } : Prt).stirred with n := 0 } := by
  have h := puts_words s hn hw B hB 15 (by omega)
  have e : B = B.take (4 * 15) ++ [B.getD (4 * 15) 0, B.getD (4 * 15 + 1) 0, B.getD (4 * 15 + 2) 0, B.getD (4 * 15 + 3) 0] := by
    rw [← take4 B 15 (by omega), List.take_of_length_le (by omega)]
  have e2 : s.puts B = (s.puts (B.take (4 * 15))).puts [B.getD (4 * 15) 0, B.getD (4 * 15 + 1) 0, B.getD (4 * 15 + 2) 0, B.getD (4 * 15 + 3) 0] := by
    rw [← Prt.puts_append, ← e]
  rw [e2, h]
  rw [puts_four, put4_last _ _ _ _ _ rfl (by simp [words4, hw]) (UInt8.toNat_lt _) (UInt8.toNat_lt _) (UInt8.toNat_lt _) (UInt8.toNat_lt _)]
  have e3 : (words4 B 15 ++ s.w.drop 15).set 15 ((B.getD (4 * 15) 0).toNat * 16777216 + (B.getD (4 * 15 + 1) 0).toNat * 65536 + (B.getD (4 * 15 + 2) 0).toNat * 256 + (B.getD (4 * 15 + 3) 0).toNat) = words4 B 16 := by
    rw [List.set_append_right _ _ (by rw [words4_length]; exact Nat.le_refl _), words4_length, Nat.sub_self, words4_succ B 15]
    congr 1
    rw [List.drop_eq_getElem_cons (by omega), List.drop_of_length_le (by omega)]
    rfl
  simp only at e3 ⊢
  rw [e3]
end Go.Proofs.Ytlcimiboalpdkaa

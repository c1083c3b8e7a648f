/- The walks over sums.Raw and the reference's Raw. -/
import Derived.Test.YtlcimiboalpdkaaRefHex
namespace Go.Proofs.Ytlcimiboalpdkaa
open Go.RowKit

/-- A pair of digits, and its byte. -/
def byteAt (s : ByteArray) (i : Nat) : Nat := (s.data.toList.getD i 0).toNat
def pairOk (s : ByteArray) (j : Nat) : Bool := isV (byteAt s (2 * j)) && isV (byteAt s (2 * j + 1))
def pairB (s : ByteArray) (j : Nat) : UInt8 := UInt8.ofNat (16 * numV (byteAt s (2 * j)) + numV (byteAt s (2 * j + 1)))
def pairsL (s : ByteArray) (k : Nat) : List UInt8 := (List.range k).map (pairB s)
/-- Are they digits' bytes? -/
def rawOk (s : ByteArray) : Prop := s.size % 2 = 0 ∧ ∀ j, j < s.size / 2 → pairOk s j = true
def RawSays (s : ByteArray) (e : Ending) : Prop :=
  (rawOk s → e = .returned (.tuple #[.string ⟨(pairsL s (s.size / 2)).toArray⟩, .bool true])) ∧ (¬ rawOk s → e = .returned (.tuple #[.string ⟨#[]⟩, .bool false]))
theorem byteAt_eq (s : ByteArray) (i : Nat) (h : i < s.size) : s[i].toNat = byteAt s i := by
  unfold byteAt
  rw [List.getD_eq_getElem?_getD, List.getElem?_eq_getElem (by simpa using h)]
  rfl
theorem byteAt_lt (s : ByteArray) (i : Nat) : byteAt s i < 256 := by unfold byteAt; exact UInt8.toNat_lt _
theorem pairB_toNat (s : ByteArray) (j : Nat) : (pairB s j).toNat = 16 * numV (byteAt s (2 * j)) + numV (byteAt s (2 * j + 1)) := by
  have h1 := numV_lt (byteAt s (2 * j))
  have h2 := numV_lt (byteAt s (2 * j + 1))
  unfold pairB
  rw [UInt8.toNat_ofNat']
  omega
theorem pairsL_succ (s : ByteArray) (k : Nat) : pairsL s (k + 1) = pairsL s k ++ [pairB s k] := by simp [pairsL, List.range_succ]
theorem pairsL_length (s : ByteArray) (k : Nat) : (pairsL s k).length = k := by simp [pairsL]

/-- What the block holds in round k. -/
def rawC (s : ByteArray) (k : Nat) : Array Value := ((List.range (s.size / 2)).map fun j => Value.int .u8 ((if j < k then (pairB s j).toNat else 0 : Nat) : Int)).toArray
theorem rawC_size (s : ByteArray) (k : Nat) : (rawC s k).size = s.size / 2 := by simp [rawC]
theorem rawC_zero (s : ByteArray) : rawC s 0 = Array.replicate (s.size / 2) (.int .u8 0) := by
  apply Array.ext
  · simp [rawC]
  · intro i h1 h2
    simp [rawC]
theorem rawC_set (s : ByteArray) (k : Nat) (v : Int) (hv : v = ((pairB s k).toNat : Int)) : (rawC s k).setIfInBounds k (.int .u8 v) = rawC s (k + 1) := by
  subst hv
  unfold rawC
  rw [List.setIfInBounds_toArray]
  congr 1
  apply List.ext_getElem
  · simp
  · intro m h1 h2
    simp only [List.getElem_set, List.getElem_map, List.getElem_range]
    by_cases e : k = m
    · subst e; simp
    · rw [if_neg e]
      by_cases e2 : m < k
      · rw [if_pos e2, if_pos (by omega)]
      · rw [if_neg e2, if_neg (by omega)]
theorem raw_conv {w : World} {g : Nat} {s : ByteArray} (h : Blk w g 5 (rawC s (s.size / 2))) (c : Nat) :
    (convert 31 9 (.slice (some ⟨g, 0, none⟩) (s.size / 2) c)).run Try.prog w = .ok (.string ⟨(pairsL s (s.size / 2)).toArray⟩) w := by
  have := run_convert_bytes_back (P := Try.prog) w 31 9 5 ⟨g, 0, none⟩ c (pairsL s (s.size / 2)) Try.underlying31 Try.underlying5 Try.underlying9 (by
    intro j hj
    rw [pairsL_length] at hj
    rw [show (⟨g, 0, none⟩ : Addr).add j = ⟨g, j, none⟩ by cases j <;> simp [Addr.add], h.cell j]
    simp [rawC, hj, pairsL])
  rw [pairsL_length] at this
  exact this

theorem grown_setR {W w : World} {g : Nat} (h : W.grownBy w none) (hg : W.heap.size ≤ g) (i : Nat) (u : Value) : W.grownBy (w.setCell ⟨g, i, none⟩ u) none := by
  refine ⟨h.os, h.tape, h.output, ?_, ?_⟩
  · simp only [World.setCell, Array.size_modify]; exact h.size
  · intro j hj hn
    rw [← h.block j hj hn]
    simp only [World.setCell, Array.getElem?_modify]
    rw [if_neg (by omega)]
theorem make_bytes (w : World) (n : Nat) (hn : n ≤ 20000) : (Instr.makeSlice 31 (.int .i64 (n : Int)) (.int .i64 (n : Int))).run Try.prog w = .ok (.slice (some ⟨w.heap.size, 0, none⟩) n n) (w.alloc (.cells (Array.replicate n (.int .u8 0)) 5)) := by
  obtain ⟨i5, hi5, hz5, hs5, hb5⟩ := info_parts Try.info5
  have h := run_make (P := Try.prog) w 31 5 i5 _ Try.underlying31 hi5 hz5 .i64 .i64 (n : Int) (n : Int) (by omega) (Int.le_refl _) (by rw [hb5]; omega) (by omega)
  rw [hs5] at h
  simp only [Int.toNat_natCast, Nat.mul_one] at h
  rw [h]
  congr 4
  apply Array.ext
  · simp [madeCells]
  · intro i h1 h2
    simp [madeCells, Value.cells, Nat.mod_one]

set_option maxHeartbeats 1000000 in
theorem raw_any (s : ByteArray) (w : World) (hs : s.size ≤ 12000) :
    Calls Try.prog 16 #[.string s] w fun e w' => RawSays s e ∧ w.grownBy w' none := by
  obtain ⟨i5, hi5, hz5, hs5, hb5⟩ := info_parts Try.info5
  go_enter Try.func16, Try.ntmps16
  by_cases hodd : s.size % 2 = 1
  · have h1 : (s.size : Int).tmod 2 = 1 := by rw [Int.tmod_eq_emod_of_nonneg (by omega)]; omega
    have h2 : (s.size : Int) % 2 = 1 := by omega
    go_wp2_with fail
    go_ret2
    exact ⟨⟨fun h => by have := h.1; omega, fun _ => rfl⟩, ⟨rfl, rfl, rfl, Nat.le_refl _, fun _ _ _ => rfl⟩⟩
  · have h1 : ¬ (s.size : Int).tmod 2 = 1 := by rw [Int.tmod_eq_emod_of_nonneg (by omega)]; omega
    have h2 : ¬ (s.size : Int) % 2 = 1 := by omega
    have h3 : ((s.size : Int) % 2 == 1) = false := beq_eq_false_iff_ne.2 h2
    obtain ⟨H, hH⟩ : ∃ H : Nat, H = s.size / 2 := ⟨_, rfl⟩
    have hH2 : (s.size : Int) / 2 = (H : Int) := by omega
    have hmk : ∀ v : World, _ := fun v => make_bytes v H (by omega)
    have hH3 : 2 * H = s.size := by omega
    have HH := Lib.hid hH
    have HH3 := Lib.hid hH3
    have hHs : H ≤ 6000 := by omega
    clear hH hH3
    go_wp2_with fail
    go_loopw [5, 20] (fun _ i wr => ∃ k : Nat, k ≤ H ∧ i = .int .i64 k ∧ Blk wr w.heap.size 5 (rawC s k) ∧ (∀ j, j < k → pairOk s j = true) ∧ w.grownBy wr none) (fun _ i _ => H - (intOf i).toNat)
    case atStart => exact ⟨0, by omega, rfl, by rw [rawC_zero, ← HH.out]; exact Blk.new _ _ _, fun j hj => absurd hj (Nat.not_lt_zero j), World.grownBy_alloc _ _ _⟩
    case round =>
      obtain ⟨k, hk, rfl, hb, hall, hg⟩ := hrel
      have HA : Hid (∀ j, j < k → pairOk s j = true) := hall
      have HB := Lib.hid hb
      clear hall hb
      by_cases hlt : k < H
      · have hsz : s.size = 2 * H := HH3.out.symm
        have i0 : 2 * k < s.size := by omega
        have i1 : 2 * k + 1 < s.size := by omega
        have b0 := byteAt_eq s (2 * k) i0
        have b1 := byteAt_eq s (2 * k + 1) i1
        clear hsz
        obtain ⟨x0, hx0⟩ : ∃ x, x = numV (byteAt s (2 * k)) := ⟨_, rfl⟩
        obtain ⟨x1, hx1⟩ : ∃ x, x = numV (byteAt s (2 * k + 1)) := ⟨_, rfl⟩
        obtain ⟨d0, hd0⟩ : ∃ x, x = isV (byteAt s (2 * k)) := ⟨_, rfl⟩
        obtain ⟨d1, hd1⟩ : ∃ x, x = isV (byteAt s (2 * k + 1)) := ⟨_, rfl⟩
        have N0 : Hid (∀ v, _) := fun v => number_any (byteAt s (2 * k)) (byteAt_lt s _) v
        have N1 : Hid (∀ v, _) := fun v => number_any (byteAt s (2 * k + 1)) (byteAt_lt s _) v
        rw [← hx0, ← hd0] at N0
        rw [← hx1, ← hd1] at N1
        have lx0 : x0 < 16 := by rw [hx0]; exact numV_lt _
        have lx1 : x1 < 16 := by rw [hx1]; exact numV_lt _
        have HV : Hid ((16 * x0 + x1 : Nat) = (pairB s k).toNat) := by
          show _ = _
          rw [pairB_toNat, hx0, hx1]
        have HD : Hid (pairOk s k = (d0 && d1)) := by
          show _ = _
          rw [hd0, hd1]; rfl
        clear hx0 hx1 hd0 hd1
        have c1 : wr.cell? ⟨w.heap.size, k, none⟩ = (rawC s k)[k]? := HB.out.cell k
        rw [Array.getElem?_eq_getElem (by rw [rawC_size, ← HH.out]; exact hlt)] at c1
        have f1 : wr.frozen? ⟨w.heap.size, k, none⟩ = false := HB.out.frozen k
        have g0 : IntKind.u8.wrap (16 * (x0 : Int)) = 16 * (x0 : Int) := Go.IntWalk.u8_in _ (by omega)
        have g1 : IntKind.u8.wrap (16 * (x0 : Int) + (x1 : Int)) = 16 * (x0 : Int) + (x1 : Int) := Go.IntWalk.u8_in _ (by omega)
        have hno : (d0 && d1) = false → ¬ rawOk s := fun e h => by
          have := h.2 k (by rw [← HH.out]; exact hlt)
          rw [HD.out, e] at this
          cases this
        go_wp2_with fail
        refine (N0.out _).mono ?_
        rintro e w3 ⟨rfl, rfl⟩
        go_wp2_with fail
        refine (N1.out _).mono ?_
        rintro e w3 ⟨rfl, rfl⟩
        cases d0 <;> cases d1 <;> go_wp2_with fail
        · go_ret2
          exact ⟨⟨fun h => absurd h (hno rfl), fun _ => rfl⟩, hg⟩
        · go_ret2
          exact ⟨⟨fun h => absurd h (hno rfl), fun _ => rfl⟩, hg⟩
        · go_ret2
          exact ⟨⟨fun h => absurd h (hno rfl), fun _ => rfl⟩, hg⟩
        · refine ⟨⟨k + 1, by omega, rfl, ?_, ?_, grown_setR hg (Nat.le_refl _) _ _⟩, by simp only [intOf]; omega⟩
          · have h := HB.out.set_ k (.int .u8 (16 * (x0 : Int) + (x1 : Int)))
            rw [rawC_set s k _ (by rw [← HV.out]; omega)] at h
            exact h
          · intro j hj
            by_cases e : j = k
            · rw [e, HD.out]; rfl
            · exact HA.out j (by omega)
      · have hkH : k = H := by omega
        subst hkH
        have hcv : (convert 31 9 (.slice (some ⟨w.heap.size, 0, none⟩) k k)).run Try.prog wr = .ok (.string ⟨(pairsL s (s.size / 2)).toArray⟩) wr := by
          have hB := HB.out
          rw [HH.out] at hB ⊢
          exact raw_conv hB _
        have hok : rawOk s := ⟨by omega, by rw [← HH.out]; exact HA.out⟩
        have HO := Lib.hid hok
        obtain ⟨R, hR⟩ : ∃ R : ByteArray, R = ⟨(pairsL s (s.size / 2)).toArray⟩ := ⟨_, rfl⟩
        rw [← hR] at hcv
        have HR := Lib.hid hR
        clear hR hok
        go_wp2_with fail
        go_ret2
        exact ⟨⟨fun _ => by rw [← HR.out]; rfl, fun h => absurd HO.out h⟩, hg⟩

theorem value_num (n : Nat) (hn : n < 256) (h : isV n = true) (w : World) : Calls Try.prog 30 #[.int .u8 n] w fun e w' => e = .returned (.int .i64 (numV n : Nat)) ∧ w = w' := by
  have := value_any n hn w
  unfold valV at this
  rwa [if_pos h] at this
theorem value_not (n : Nat) (hn : n < 256) (h : isV n = false) (w : World) : Calls Try.prog 30 #[.int .u8 n] w fun e w' => e = .returned (.int .i64 (-1)) ∧ w = w' := by
  have := value_any n hn w
  unfold valV at this
  rwa [if_neg (by rw [h]; decide)] at this
theorem one_conv (w : World) (q : UInt8) (z : Int) (hz : ((q.toNat : Nat) : Int) = z) :
    (convert 31 9 (.slice (some ⟨w.heap.size, 0, none⟩) 1 1)).run Try.prog (w.alloc (.cells #[.int .u8 z] 5)) = .ok (.string ⟨#[q]⟩) (w.alloc (.cells #[.int .u8 z] 5)) := by
  subst hz
  refine run_convert_bytes_back (P := Try.prog) _ 31 9 5 ⟨w.heap.size, 0, none⟩ 1 [q] Try.underlying31 Try.underlying5 Try.underlying9 ?_
  intro j hj
  have hj0 : j = 0 := by simpa using hj
  subst hj0
  exact (Blk.new w 5 _).cell 0

set_option maxHeartbeats 1000000 in
theorem refRaw_any (s : ByteArray) (w : World) (hs : s.size ≤ 12000) :
    Calls Try.prog 18 #[.string s] w fun e w' => RawSays s e ∧ w.grownBy w' none := by
  go_enter Try.func18, Try.ntmps18
  go_wp2_with fail
  go_loopw [4, 5] (fun v i wr => ∃ k : Nat, 2 * k ≤ s.size ∧ i = .int .i64 (2 * k) ∧ v = .string ⟨(pairsL s k).toArray⟩ ∧ (∀ j, j < k → pairOk s j = true) ∧ w.grownBy wr none) (fun _ i _ => s.size - (intOf i).toNat)
  case atStart => exact ⟨0, by omega, rfl, rfl, fun j hj => absurd hj (Nat.not_lt_zero j), ⟨rfl, rfl, rfl, Nat.le_refl _, fun _ _ _ => rfl⟩⟩
  case round =>
    obtain ⟨k, hk, rfl, rfl, hall, hg⟩ := hrel
    have HA : Hid (∀ j, j < k → pairOk s j = true) := hall
    clear hall
    obtain ⟨R, hR⟩ : ∃ R : ByteArray, R = ⟨(pairsL s k).toArray⟩ := ⟨_, rfl⟩
    rw [← hR]
    have hRs : R.size = k := by
      have e : R.size = (pairsL s k).length := by rw [hR]; rfl
      rw [e, pairsL_length]
    have HR := Lib.hid hR
    clear hR
    by_cases hlt : 2 * k < s.size
    · by_cases hone : 2 * k + 1 = s.size
      · go_wp2_with fail
        go_ret2
        exact ⟨⟨fun h => absurd h.1 (by omega), fun _ => rfl⟩, hg⟩
      · have b0 := byteAt_eq s (2 * k) hlt
        have b1 := byteAt_eq s (2 * k + 1) (by omega)
        cases hd0 : isV (byteAt s (2 * k)) with
        | false =>
          have N0 : Hid (∀ v, _) := fun v => value_not (byteAt s (2 * k)) (byteAt_lt s _) hd0 v
          obtain ⟨z1, hz1⟩ : ∃ z, z = valV (byteAt s (2 * k + 1)) := ⟨_, rfl⟩
          have N1 : Hid (∀ v, _) := fun v => value_any (byteAt s (2 * k + 1)) (byteAt_lt s _) v
          rw [← hz1] at N1
          have HN : Hid (¬ rawOk s) := fun h => by
            have := h.2 k (by omega)
            unfold pairOk at this
            rw [hd0] at this
            cases this
          clear hd0 hz1
          go_wp2_with fail
          refine (N0.out _).mono ?_
          rintro e w3 ⟨rfl, rfl⟩
          go_wp2_with fail
          refine (N1.out _).mono ?_
          rintro e w3 ⟨rfl, rfl⟩
          go_wp2_with fail
          go_ret2
          exact ⟨⟨fun h => absurd h HN.out, fun _ => rfl⟩, hg⟩
        | true =>
          have lx0 := numV_lt (byteAt s (2 * k))
          have N0 : Hid (∀ v, _) := fun v => value_num (byteAt s (2 * k)) (byteAt_lt s _) hd0 v
          cases hd1 : isV (byteAt s (2 * k + 1)) with
          | false =>
            have N1 : Hid (∀ v, _) := fun v => value_not (byteAt s (2 * k + 1)) (byteAt_lt s _) hd1 v
            have HN : Hid (¬ rawOk s) := fun h => by
              have := h.2 k (by omega)
              unfold pairOk at this
              rw [hd0, hd1] at this
              cases this
            generalize numV (byteAt s (2 * k)) = x0 at *
            clear hd0 hd1
            go_wp2_with fail
            refine (N0.out _).mono ?_
            rintro e w3 ⟨rfl, rfl⟩
            go_wp2_with fail
            refine (N1.out _).mono ?_
            rintro e w3 ⟨rfl, rfl⟩
            go_wp2_with fail
            go_ret2
            exact ⟨⟨fun h => absurd h HN.out, fun _ => rfl⟩, hg⟩
          | true =>
            have lx1 := numV_lt (byteAt s (2 * k + 1))
            have N1 : Hid (∀ v, _) := fun v => value_num (byteAt s (2 * k + 1)) (byteAt_lt s _) hd1 v
            have HP : Hid (pairOk s k = true) := by
              show _ = _
              unfold pairOk
              rw [hd0, hd1]; rfl
            have hpb := pairB_toNat s k
            have HPB : Hid (pairsL s (k + 1) = pairsL s k ++ [pairB s k]) := pairsL_succ s k
            have HALL : Hid (∀ j, j < k + 1 → pairOk s j = true) := fun j hj => by
              by_cases e : j = k
              · rw [e]; exact HP.out
              · exact HA.out j (by omega)
            generalize numV (byteAt s (2 * k)) = x0 at *
            generalize numV (byteAt s (2 * k + 1)) = x1 at *
            generalize pairB s k = q at *
            have hcv := one_conv wr q _ (show ((q.toNat : Nat) : Int) = 16 * (x0 : Int) + (x1 : Int) by omega)
            have hS1 : (ByteArray.mk #[q]).size = 1 := rfl
            clear hd0 hd1 hpb
            go_wp2_with fail
            refine (N0.out _).mono ?_
            rintro e w3 ⟨rfl, rfl⟩
            go_wp2_with fail
            refine (N1.out _).mono ?_
            rintro e w3 ⟨rfl, rfl⟩
            go_wp2_with fail
            refine ⟨⟨k + 1, by omega, by congr 1, ?_, HALL.out, hg.trans (World.grownBy_alloc _ _ _)⟩, by simp only [intOf]; omega⟩
            rw [HPB.out, HR.out]
            congr 1
    · have HO : Hid (rawOk s) := ⟨by omega, fun j hj => HA.out j (by omega)⟩
      have hkk : s.size / 2 = k := by omega
      have HK := Lib.hid hkk
      clear hkk
      go_wp2_with fail
      go_ret2
      exact ⟨⟨fun _ => by rw [HK.out, ← HR.out]; rfl, fun h => absurd HO.out h⟩, hg⟩
end Go.Proofs.Ytlcimiboalpdkaa

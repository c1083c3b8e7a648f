/- The walk over the reference's Cut. -/
import Derived.Test.YtackgamdjeidmaaCutC
namespace Go.Proofs.Ytackgamdjeidmaa
open Go.RowKit

theorem bytes_length (r : ByteArray) : r.data.toList.length = r.size := by simp
theorem extract_take (r : ByteArray) (n : Nat) : (r.extract 0 n).data.toList = r.data.toList.take n := by
  rw [ByteArray.data_extract, Array.toList_extract, List.extract_eq_take_drop]; simp
theorem extract_drop (r : ByteArray) (n : Nat) : (r.extract n r.size).data.toList = r.data.toList.drop n := by
  rw [ByteArray.data_extract, Array.toList_extract, List.extract_eq_take_drop]
  exact List.take_of_length_le (by simp)
theorem extract_last8 (r : ByteArray) (n q : Nat) (hq : q + 8 = n) (hn : n ≤ r.size) : (r.extract q n).data.toList = last8 (r.data.toList.take n) := by
  rw [ByteArray.data_extract, Array.toList_extract, List.extract_eq_take_drop]
  unfold last8
  have hl : (r.data.toList.take n).length = n := by simp; omega
  rw [hl, List.drop_take, show n - 8 = q by omega]
theorem string_take (r : ByteArray) (n : Nat) : r.extract 0 n = ⟨(r.data.toList.take n).toArray⟩ := by
  have := extract_take r n
  cases h : r.extract 0 n with
  | mk d => rw [h] at this; rw [← this]

theorem own_below {w w' : World} {B : Nat} {e : TypeId} {size n : Nat} {v : Value} {xs : List Value} (h : w.ownsRow B e size v n xs) (hb : Below w.heap.size w w') : w'.ownsRow B e size v n xs := by
  refine ⟨h.1, ?_⟩
  rcases h.2 with h1 | ⟨g', cap, cur, hv, hB, hh, h2⟩
  · exact Or.inl h1
  · exact Or.inr ⟨g', cap, cur, hv, hB, (hb.block g' (Blk.lt (t := e) (cs := cur) hh)).trans hh, h2⟩

/-- Where the search for the end of the first chunk stands. -/
def Seek (r : ByteArray) (m : Nat) (e : Bool) : Prop :=
  m ≤ r.size ∧ (∀ j, 1 ≤ j → j < m → endsB (r.data.toList.take j) = false) ∧ (e = true → 1 ≤ m ∧ (m = r.size ∨ endsB (r.data.toList.take m) = true)) ∧ (e = false → m < r.size ∧ (1 ≤ m → endsB (r.data.toList.take m) = false))

theorem seek_next {r : ByteArray} {m : Nat} (h : Seek r m false) : m + 1 ≤ r.size ∧ ∀ j, 1 ≤ j → j < m + 1 → endsB (r.data.toList.take j) = false := by
  obtain ⟨h1, h2, _, h4⟩ := h
  have h4 := h4 rfl
  refine ⟨by omega, fun j hj hj2 => ?_⟩
  by_cases hjm : j = m
  · subst hjm; exact h4.2 hj
  · exact h2 j hj (by omega)
theorem seek_end {r : ByteArray} {m : Nat} (h : Seek r m false) (he : m + 1 = r.size ∨ endsB (r.data.toList.take (m + 1)) = true) : Seek r (m + 1) true :=
  ⟨(seek_next h).1, (seek_next h).2, fun _ => ⟨by omega, he⟩, fun h => by cases h⟩
theorem seek_on {r : ByteArray} {m : Nat} (h : Seek r m false) (h1 : m + 1 ≠ r.size) (he : endsB (r.data.toList.take (m + 1)) = false) : Seek r (m + 1) false :=
  ⟨(seek_next h).1, (seek_next h).2, fun h => by (cases h), fun _ => ⟨by have := (seek_next h).1; omega, fun _ => he⟩⟩

theorem take_length {r : ByteArray} {m : Nat} (h : m ≤ r.size) : (r.data.toList.take m).length = m := by simp; omega

theorem refSum_last8 (r : ByteArray) (n q : Nat) (hq : q + 8 = n) (hn : n ≤ r.size) (z1 z2 : Int) (hz : zOf (r.data.toList.take n) = (z1, z2)) (w : World) :
    Calls Try.prog 15 #[.string (r.extract q n)] w fun e w' => e = .returned (.agg #[.int .i64 z1, .int .i64 z2]) ∧ Below w.heap.size w w' := by
  have h := refSum_any (r.extract q n) w (by simp; omega)
  rw [extract_last8 r n q hq hn, show sumL (last8 (r.data.toList.take n)) = zOf (r.data.toList.take n) from rfl, hz] at h
  exact h

set_option maxHeartbeats 4000000 in
theorem refCut_any (s : ByteArray) (w : World) (hs : s.size ≤ 6000) :
    Calls Try.prog 26 #[.string s] w (RetTexts w.heap.size (cutL s.data.toList) w) := by
  obtain ⟨i9, hi9, hz9, hs9, hb9⟩ := info_parts Try.info9
  have hcnt := cutL_length s.data.toList
  rw [bytes_length] at hcnt
  obtain ⟨C, hC⟩ : ∃ C, cutL s.data.toList = C := ⟨_, rfl⟩
  rw [hC] at hcnt ⊢
  have HC := Lib.hid hC
  clear hC
  go_enter Try.func26, Try.ntmps26
  go_wp2
  go_loopw [0, 3] (fun x v wr => ∃ (r : ByteArray) (acc : List (List UInt8)), x = .string r ∧ r.size ≤ 6000 ∧ acc ++ cutL r.data.toList = C ∧ wr.ownsRow w.heap.size 9 1 v acc.length (strVals acc) ∧ Below w.heap.size w wr) (fun x _ _ => match x with | .string r => r.size | _ => 0)
  case atStart => exact ⟨s, [], rfl, hs, HC.out, World.ownsRow_nil _ _ _ _, Below.refl _ _⟩
  case round =>
    obtain ⟨r, acc, rfl, hr, hacc, hown, hb⟩ := hrel
    have HA := Lib.hid hacc
    have hal : acc.length ≤ C.length := by rw [← hacc]; simp
    clear hacc
    obtain ⟨A, cap, rfl⟩ := own_slice hown
    by_cases h0 : 0 < r.size
    · go_wp2
      obtain ⟨wo, rfl⟩ : ∃ wo : World, wo = wr := ⟨_, rfl⟩
      have HO := Lib.hid hown
      clear hown
      go_loopw [4, 5] (fun i t wi => ∃ (m : Nat) (e : Bool), i = .int .i64 m ∧ t = .bool e ∧ Seek r m e ∧ Below wo.heap.size wo wi) (fun i t _ => 2 * (r.size - (intOf i).toNat) + (match t with | .bool false => 1 | _ => 0))
      case atStart => exact ⟨0, false, rfl, rfl, ⟨by omega, fun j h1 h2 => by omega, fun h => by (cases h), fun _ => ⟨h0, fun h => by omega⟩⟩, Below.refl _ _⟩
      case round =>
        obtain ⟨m, e, rfl, rfl, hsk, hbi⟩ := hrel
        cases e with
        | true =>
          obtain ⟨hm, hj, he, _⟩ := hsk
          obtain ⟨h1, he⟩ := he rfl
          have hstep := cutL_step (s := r.data.toList) (n := m) h1 (by rw [bytes_length]; exact hm) hj (by rw [bytes_length]; exact he)
          have HSt := Lib.hid hstep
          clear hstep hj he
          have hownI := own_below HO.out hbi
          have hB1 : w.heap.size ≤ wr.heap.size := Nat.le_trans hb.size hbi.size
          go_wp2_with (at_builtin; refine wpList_append_own _ rfl (.tmp 35) (.tmp 39) 41 rfl w.heap.size 9 i9 (.string ByteArray.empty) 1 16 Try.underlying41 hi9 hz9 hs9 hb9 rfl (by decide) (.slice A _ cap) _ _ rfl (World.ownsRow.alloc hownI _) ⟨wr.heap.size, 0, none⟩ 1 1 [_] rfl rfl (cell_new_of _ _ _ _ rfl) ?_ ?_ ?_ ?_ ?_)
          · first | rfl | (intro u hu; have := List.mem_singleton.1 hu; subst this; rfl)
          · unfold maxLen; omega
          · omega
          · first | omega | (simp; omega)
          intro v' w4 hown4 hg4 _
          have hb4 : Below w.heap.size w w4 := ((hb.trans (hbi.mono hb.size)).alloc hB1 _).grown hg4 (by simp; omega) fun k hk => (hownI.lt k hk).1
          have HO4 : Hid (w4.ownsRow w.heap.size 9 1 v' (acc ++ [r.data.toList.take m]).length (strVals (acc ++ [r.data.toList.take m]))) := by
            rw [strVals_snoc, List.length_append, List.length_singleton, ← string_take]
            exact hown4
          clear hown4 hg4 hownI
          go_wp2
          go_roundw
          case rel =>
            refine ⟨r.extract m r.size, acc ++ [r.data.toList.take m], rfl, by simp; omega, ?_, HO4.out, hb4⟩
            rw [extract_drop, ← HA.out, HSt.out]; simp
          case measure => simp; omega
        | false =>
          obtain ⟨hm1, _⟩ := seek_next hsk
          by_cases ha : m + 1 < r.size
          · by_cases h128 : m + 1 = 128
            · have hN := Lib.hid (seek_end hsk (Or.inr (endsB_full (by rw [take_length hm1, h128]))))
              obtain rfl : m = 127 := by omega
              clear hsk
              go_wp2
              go_roundw
              case rel => exact ⟨128, true, rfl, rfl, hN.out, hbi⟩
              case measure => simp [intOf]; omega
            · by_cases h16 : m + 1 < 16
              · have hN := Lib.hid (seek_on hsk (by omega) (endsB_small (take_length hm1) h16))
                clear hsk
                have t2 : ((m : Int) + 1 == 128) = false := by rw [beq_eq_false_iff_ne]; omega
                have t1 : ((m : Int) + 1 == (r.size : Int)) = false := by rw [beq_eq_false_iff_ne]; omega
                go_wp2
                go_roundw
                case rel => exact ⟨m + 1, false, by go_num, rfl, hN.out, hbi⟩
                case measure => simp [intOf]; omega
              · obtain ⟨q, rfl⟩ : ∃ q, m = q + 7 := ⟨m - 7, by omega⟩
                obtain ⟨z1, z2, hz⟩ : ∃ z1 z2, zOf (r.data.toList.take (q + 7 + 1)) = (z1, z2) := ⟨_, _, rfl⟩
                have hzb := zOf_le (r.data.toList.take (q + 7 + 1))
                rw [hz] at hzb
                simp only at hzb
                have hce := endsB_cell (take_length hm1) hz h128 (by omega)
                have HR : Hid (∀ w, _) := fun w => refSum_last8 r (q + 7 + 1) q rfl hm1 z1 z2 hz w
                clear hz
                have t2 : ((q : Int) + 7 + 1 == 128) = false := by rw [beq_eq_false_iff_ne]; omega
                have t1 : ((q : Int) + 7 + 1 == (r.size : Int)) = false := by rw [beq_eq_false_iff_ne]; omega
                by_cases hc : (z1 + 3 * z2) % 16 = 0
                · have hN := Lib.hid (seek_end hsk (Or.inr (by rw [hce, hc]; rfl)))
                  clear hsk hce
                  go_wp2_with fail
                  refine (HR.out _).mono ?_
                  rintro e w1 ⟨rfl, hB1⟩
                  go_wp2_with fail
                  refine (refCell_any 16 z1 z2 _ (by omega) (by omega) (by omega) (by omega) (by omega) (by omega)).mono ?_
                  rintro e w2 ⟨rfl, hB2⟩
                  rw [hc]
                  clear hc
                  go_wp2
                  go_roundw
                  case rel => exact ⟨q + 7 + 1, true, by go_num, rfl, hN.out, (hbi.trans (hB1.mono hbi.size)).trans (hB2.mono (Nat.le_trans hbi.size hB1.size))⟩
                  case measure => simp [intOf]; omega
                · have hN := Lib.hid (seek_on hsk (by omega) (by rw [hce]; simpa using hc))
                  clear hsk hce
                  have hc' : ((z1 + 3 * z2) % 16 == 0) = false := by simpa using hc
                  clear hc
                  go_wp2_with fail
                  refine (HR.out _).mono ?_
                  rintro e w1 ⟨rfl, hB1⟩
                  go_wp2_with fail
                  refine (refCell_any 16 z1 z2 _ (by omega) (by omega) (by omega) (by omega) (by omega) (by omega)).mono ?_
                  rintro e w2 ⟨rfl, hB2⟩
                  go_wp2
                  go_roundw
                  case rel => exact ⟨q + 7 + 1, false, by go_num, rfl, hN.out, (hbi.trans (hB1.mono hbi.size)).trans (hB2.mono (Nat.le_trans hbi.size hB1.size))⟩
                  case measure => simp [intOf]; omega
          · have hN := Lib.hid (seek_end hsk (Or.inl (by omega)))
            clear hsk
            have t1 : ((m : Int) + 1 == (r.size : Int)) = true := by rw [beq_iff_eq]; omega
            go_wp2
            go_roundw
            case rel => exact ⟨m + 1, true, by go_num, rfl, hN.out, hbi⟩
            case measure => simp [intOf]; omega
    · have hz : r.data.toList = [] := List.eq_nil_of_length_eq_zero (by rw [bytes_length]; omega)
      have HZ := Lib.hid hz
      have HO := Lib.hid hown
      clear hz hown
      go_wp2
      go_ret
      refine ⟨_, rfl, ?_, hb⟩
      have e : acc = C := by rw [← HA.out, HZ.out, cutL_nil, List.append_nil]
      rw [← e]
      exact ⟨A, cap, rfl, HO.out⟩
end Go.Proofs.Ytackgamdjeidmaa

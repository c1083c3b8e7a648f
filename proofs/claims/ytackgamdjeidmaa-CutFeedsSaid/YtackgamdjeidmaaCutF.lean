/- The walk over cut.Cutter.Feed: the chunks that end in a part. -/
import Derived.Test.YtackgamdjeidmaaCutX
namespace Go.Proofs.Ytackgamdjeidmaa
open Go.RowKit

/-- What holds at each label of Feed. -/
def FeedAt (base g : Nat) (o : List UInt8) (p : ByteArray) (w : World) : Nat → Act → World → Prop
  | 0, a, w' => ∃ (k : Nat) (i : Int) (v u9 u10 u11 u12 u13 u14 u15 u16 u17 u18 u19 u20 u21 u22 u23 u24 u25 u26 u27 u28 u29 u30 u31 u32 u33 u34 u35 u36 u37 u38 u39 u40 u41 u42 u43 u44 u45 : Value), a = { tmps := #[.pointer (some ⟨g, 0, none⟩), .string p, undef, undef, .slice none 0 0, v, .int .i64 i, .pointer (some ⟨g, 0, none⟩), .bool false, u9, u10, u11, u12, u13, u14, u15, u16, u17, u18, u19, u20, u21, u22, u23, u24, u25, u26, u27, u28, u29, u30, u31, u32, u33, u34, u35, u36, u37, u38, u39, u40, u41, u42, u43, u44, u45], defers := [] } ∧ i = k ∧ k ≤ p.size ∧ FeedJ base g o p w k v w'
  | 1, a, w' => ∃ (k : Nat) (i : Int) (v u9 u10 u11 u12 u13 u14 u15 u16 u17 u18 u19 u20 u21 u22 u23 u24 u25 u26 u27 u28 u29 u30 u31 u32 u33 u34 u35 u36 u37 u38 u39 u40 u41 u42 u43 u44 u45 : Value), a = { tmps := #[.pointer (some ⟨g, 0, none⟩), .string p, undef, undef, .slice none 0 0, v, .int .i64 i, .pointer (some ⟨g, 0, none⟩), .bool false, u9, u10, u11, u12, u13, u14, u15, u16, u17, u18, u19, u20, u21, u22, u23, u24, u25, u26, u27, u28, u29, u30, u31, u32, u33, u34, u35, u36, u37, u38, u39, u40, u41, u42, u43, u44, u45], defers := [] } ∧ i = (k : Int) + 1 ∧ k + 1 ≤ p.size ∧ FeedE base g o p w k v w'
  | _, _, _ => False
def feedMu (p : ByteArray) (l : Nat) (a : Act) (_ : World) : Nat := 2 * (p.size - (intOf (a.tmps.getD 6 undef)).toNat) + l

theorem feed_at0 {base g : Nat} {o : List UInt8} {p : ByteArray} {w w' : World} {n : Nat} (k : Nat) {i : Int} {v u9 u10 u11 u12 u13 u14 u15 u16 u17 u18 u19 u20 u21 u22 u23 u24 u25 u26 u27 u28 u29 u30 u31 u32 u33 u34 u35 u36 u37 u38 u39 u40 u41 u42 u43 u44 u45 : Value} (hi : i = k) (hk : k ≤ p.size) (h : FeedJ base g o p w k v w') (hn : 2 * (p.size - k) < n) :
    FeedAt base g o p w 0 { tmps := #[.pointer (some ⟨g, 0, none⟩), .string p, undef, undef, .slice none 0 0, v, .int .i64 i, .pointer (some ⟨g, 0, none⟩), .bool false, u9, u10, u11, u12, u13, u14, u15, u16, u17, u18, u19, u20, u21, u22, u23, u24, u25, u26, u27, u28, u29, u30, u31, u32, u33, u34, u35, u36, u37, u38, u39, u40, u41, u42, u43, u44, u45], defers := [] } w' ∧ feedMu p 0 { tmps := #[.pointer (some ⟨g, 0, none⟩), .string p, undef, undef, .slice none 0 0, v, .int .i64 i, .pointer (some ⟨g, 0, none⟩), .bool false, u9, u10, u11, u12, u13, u14, u15, u16, u17, u18, u19, u20, u21, u22, u23, u24, u25, u26, u27, u28, u29, u30, u31, u32, u33, u34, u35, u36, u37, u38, u39, u40, u41, u42, u43, u44, u45], defers := [] } w' < n := by
  refine ⟨⟨k, i, v, u9, u10, u11, u12, u13, u14, u15, u16, u17, u18, u19, u20, u21, u22, u23, u24, u25, u26, u27, u28, u29, u30, u31, u32, u33, u34, u35, u36, u37, u38, u39, u40, u41, u42, u43, u44, u45, rfl, hi, hk, h⟩, ?_⟩
  subst hi
  simpa [feedMu, intOf] using hn
theorem feed_at1 {base g : Nat} {o : List UInt8} {p : ByteArray} {w w' : World} {n : Nat} (k : Nat) {i : Int} {v u9 u10 u11 u12 u13 u14 u15 u16 u17 u18 u19 u20 u21 u22 u23 u24 u25 u26 u27 u28 u29 u30 u31 u32 u33 u34 u35 u36 u37 u38 u39 u40 u41 u42 u43 u44 u45 : Value} (hi : i = (k : Int) + 1) (hk : k + 1 ≤ p.size) (h : FeedE base g o p w k v w') (hn : 2 * (p.size - (k + 1)) + 1 < n) :
    FeedAt base g o p w 1 { tmps := #[.pointer (some ⟨g, 0, none⟩), .string p, undef, undef, .slice none 0 0, v, .int .i64 i, .pointer (some ⟨g, 0, none⟩), .bool false, u9, u10, u11, u12, u13, u14, u15, u16, u17, u18, u19, u20, u21, u22, u23, u24, u25, u26, u27, u28, u29, u30, u31, u32, u33, u34, u35, u36, u37, u38, u39, u40, u41, u42, u43, u44, u45], defers := [] } w' ∧ feedMu p 1 { tmps := #[.pointer (some ⟨g, 0, none⟩), .string p, undef, undef, .slice none 0 0, v, .int .i64 i, .pointer (some ⟨g, 0, none⟩), .bool false, u9, u10, u11, u12, u13, u14, u15, u16, u17, u18, u19, u20, u21, u22, u23, u24, u25, u26, u27, u28, u29, u30, u31, u32, u33, u34, u35, u36, u37, u38, u39, u40, u41, u42, u43, u44, u45], defers := [] } w' < n := by
  refine ⟨⟨k, i, v, u9, u10, u11, u12, u13, u14, u15, u16, u17, u18, u19, u20, u21, u22, u23, u24, u25, u26, u27, u28, u29, u30, u31, u32, u33, u34, u35, u36, u37, u38, u39, u40, u41, u42, u43, u44, u45, rfl, hi, hk, h⟩, ?_⟩
  subst hi
  have : ((k : Int) + 1).toNat = k + 1 := by omega
  simpa [feedMu, intOf, this] using hn

theorem endsB_full {o : List UInt8} (h : o.length = 128) : endsB o = true := by unfold endsB; rw [h]; rfl
theorem endsB_small {o : List UInt8} {n : Nat} (h : o.length = n) (hn : n < 16) : endsB o = false := by
  unfold endsB; rw [h]; simp; omega
theorem endsB_cell {o : List UInt8} {n : Nat} {z1 z2 : Int} (h : o.length = n) (hz : zOf o = (z1, z2)) (hn : n ≠ 128) (hn2 : 16 ≤ n) : endsB o = ((z1 + 3 * z2) % 16 == 0) := by
  unfold endsB cell16; rw [h, hz]; simp [hn, hn2]

set_option maxHeartbeats 8000000 in
set_option maxRecDepth 100000 in
theorem feed_any (base g : Nat) (o : List UInt8) (p : ByteArray) (w : World) (h : CutAt w base g o) (hb : base ≤ w.heap.size) (ho : o.length < 128) (hp : p.size ≤ 6000) :
    Calls Try.prog 28 #[.pointer (some ⟨g, 0, none⟩), .string p] w fun e w' => ∃ A cap, e = .returned (.slice A (feedL ([], o) p.data.toList).1.length cap) ∧
      w'.ownsRow w.heap.size 9 1 (.slice A (feedL ([], o) p.data.toList).1.length cap) (feedL ([], o) p.data.toList).1.length (strVals (feedL ([], o) p.data.toList).1) ∧
      CutAt w' base g (feedL ([], o) p.data.toList).2 ∧ Fr base g w w' := by
  obtain ⟨i9, hi9, hz9, hs9, hb9⟩ := info_parts Try.info9
  go_enter Try.func28, Try.ntmps28
  go_wp2
  refine wp_scope_labels (FeedAt base g o p w) (feedMu p) ⟨2 * p.size + 2, ?_⟩ ?_
  · go_wp2
    go_step3
    have hJ : FeedJ base g o p w 0 (.slice none 0 0) w := ⟨World.ownsRow_nil _ _ _ _, h, Fr.refl _ _ _⟩
    by_cases hlt : 0 < p.size
    · clear h
      have hcc := hJ.2.1
      have hst := (Fed.feed (p.data.toList.take 0) (st := ([], o)) ⟨ho, by simp⟩).short
      have hwb0 : w.heap.size ≤ w.heap.size := hJ.2.2.below.size
      have hcnt := feed_count o p 0
      have HJ := Lib.hid hJ
      clear hJ
      go_wp2_with fail
      refine (rollc_any base g _ p[0] _ hcc (Nat.le_trans hb hwb0) hst).mono ?_
      rintro e w1 ⟨rfl, hc1, hf1⟩
      have hwb : w.heap.size ≤ w1.heap.size := Nat.le_trans hwb0 hf1.below.size
      have hzb := zOf_le ((feedL ([], o) (p.data.toList.take 0)).2 ++ [p[0]])
      have hlen : ((feedL ([], o) (p.data.toList.take 0)).2 ++ [p[0]]).length ≤ 128 := by rw [List.length_append, List.length_singleton]; omega
      obtain ⟨_, A1, cap1, hblk1, _⟩ := id hc1
      have c0 : w1.cell? ⟨g, 0, none⟩ = some (.slice A1 ((feedL ([], o) (p.data.toList.take 0)).2 ++ [p[0]]).length cap1) := hblk1.cell 0
      have c1 : w1.cell? ⟨g, 1, none⟩ = some (.complex .f64 (W (zOf ((feedL ([], o) (p.data.toList.take 0)).2 ++ [p[0]])).1) (W (zOf ((feedL ([], o) (p.data.toList.take 0)).2 ++ [p[0]])).2)) := hblk1.cell 1
      clear hblk1 hcc hst
      obtain ⟨n1, hn1⟩ : ∃ n1, ((feedL ([], o) (p.data.toList.take 0)).2 ++ [p[0]]).length = n1 := ⟨_, rfl⟩
      obtain ⟨z1, z2, hz⟩ : ∃ z1 z2, zOf ((feedL ([], o) (p.data.toList.take 0)).2 ++ [p[0]]) = (z1, z2) := ⟨_, _, rfl⟩
      rw [hn1] at c0 hlen
      rw [hz] at c1 hzb
      simp only at c1 hzb
      have HN := Lib.hid hn1
      have HZ := Lib.hid hz
      clear hn1 hz
      by_cases h128 : n1 = 128
      · subst h128
        have HE := Lib.hid (feedE_of hlt HJ.out hc1 hf1 (endsB_full HN.out))
        go_wp2
        go_step3
        exact feed_at1 0 (by omega) (by omega) HE.out (by omega)
      · by_cases h16 : n1 < 16
        · have HE := Lib.hid (feedJ_next hlt HJ.out hc1 hf1 (endsB_small HN.out h16))
          go_wp2
          go_step3
          exact feed_at0 (0 + 1) (by omega) (by omega) HE.out (by omega)
        · have hce := endsB_cell HN.out HZ.out h128 (by omega)
          by_cases hcell : (z1 + 3 * z2) % 16 = 0
          · have HE := Lib.hid (feedE_of hlt HJ.out hc1 hf1 (by rw [hce, hcell]; rfl))
            clear hce
            go_wp2_with fail
            refine (cell_any 16 z1 z2 _ (by omega) (by omega) (by omega) (by omega)).mono ?_
            rintro e w' ⟨rfl, rfl⟩
            rw [hcell]
            clear hcell
            go_wp2_with fail
            go_step3
            go_wp2_with fail
            refine (end_any base g _ _ hc1).mono ?_
            rintro e w2 ⟨rfl, hc2, hf2⟩
            have hownE := feedE_own HE.out hf2
            have hbs : w.heap.size ≤ w2.heap.size := Nat.le_trans hwb hf2.below.size
            go_wp2_with (at_builtin; refine wpList_append_own _ rfl (.tmp 41) (.tmp 44) 41 rfl w.heap.size 9 i9 (.string ByteArray.empty) 1 16 Try.underlying41 hi9 hz9 hs9 hb9 rfl (by decide) (.slice none _ 0) _ _ rfl (World.ownsRow.alloc hownE _) ⟨w2.heap.size, 0, none⟩ 1 1 [_] rfl rfl (cell_new_of _ _ _ _ rfl) ?_ ?_ ?_ ?_ ?_)
            · intro u hu; have := List.mem_singleton.1 hu; subst this; rfl
            · unfold maxLen; omega
            · omega
            · simp; omega
            intro v' w3 hown3 hg3 _
            have hJ' := Lib.hid (feedJ_cut hb HE.out hc2 hf2 hown3 hg3)
            clear hown3 hg3 hownE
            go_wp2
            go_step3
            exact feed_at0 (0 + 1) (by omega) (by omega) hJ'.out (by omega)
          · have HE := Lib.hid (feedJ_next hlt HJ.out hc1 hf1 (by rw [hce]; simpa using hcell))
            clear hce
            have hcell' : ((z1 + 3 * z2) % 16 != 0) = true := by simpa using hcell
            clear hcell
            go_wp2_with fail
            refine (cell_any 16 z1 z2 _ (by omega) (by omega) (by omega) (by omega)).mono ?_
            rintro e w' ⟨rfl, rfl⟩
            go_wp2
            go_step3
            exact feed_at0 (0 + 1) (by omega) (by omega) HE.out (by omega)
    · have hz0 : p.size = 0 := by omega
      have HJ := Lib.hid hJ
      have HZ0 := Lib.hid hz0
      clear hJ hz0
      go_wp2
      simp only [Jumps]
      go_ret
      have hJ := HJ.out
      have ht : p.data.toList = [] := List.eq_nil_of_length_eq_zero (by have := HZ0.out; simpa using this)
      rw [ht]
      unfold FeedJ at hJ
      rw [ht] at hJ
      exact ⟨none, 0, rfl, hJ.1, hJ.2⟩
  · intro l a wr hJ
    by_cases hl0 : l = 0
    · subst hl0
      obtain ⟨k, i, v, u9, u10, u11, u12, u13, u14, u15, u16, u17, u18, u19, u20, u21, u22, u23, u24, u25, u26, u27, u28, u29, u30, u31, u32, u33, u34, u35, u36, u37, u38, u39, u40, u41, u42, u43, u44, u45, rfl, rfl, hk, hJ⟩ := hJ
      refine ⟨_, rfl, ?_⟩
      have hmu : feedMu p 0 { tmps := #[.pointer (some ⟨g, 0, none⟩), .string p, undef, undef, .slice none 0 0, v, .int .i64 k, .pointer (some ⟨g, 0, none⟩), .bool false, u9, u10, u11, u12, u13, u14, u15, u16, u17, u18, u19, u20, u21, u22, u23, u24, u25, u26, u27, u28, u29, u30, u31, u32, u33, u34, u35, u36, u37, u38, u39, u40, u41, u42, u43, u44, u45], defers := [] } wr = 2 * (p.size - k) := by simp [feedMu, intOf]
      rw [hmu]
      clear hmu
      obtain ⟨A, cap, rfl⟩ := own_slice hJ.1
      by_cases hlt : k < p.size
      · clear h
        have hcc := hJ.2.1
        have hst := (Fed.feed (p.data.toList.take k) (st := ([], o)) ⟨ho, by simp⟩).short
        have hwb0 : w.heap.size ≤ wr.heap.size := hJ.2.2.below.size
        have hcnt := feed_count o p k
        have HJ := Lib.hid hJ
        clear hJ
        go_wp2_with fail
        refine (rollc_any base g _ p[k] _ hcc (Nat.le_trans hb hwb0) hst).mono ?_
        rintro e w1 ⟨rfl, hc1, hf1⟩
        have hwb : w.heap.size ≤ w1.heap.size := Nat.le_trans hwb0 hf1.below.size
        have hzb := zOf_le ((feedL ([], o) (p.data.toList.take k)).2 ++ [p[k]])
        have hlen : ((feedL ([], o) (p.data.toList.take k)).2 ++ [p[k]]).length ≤ 128 := by rw [List.length_append, List.length_singleton]; omega
        obtain ⟨_, A1, cap1, hblk1, _⟩ := id hc1
        have c0 : w1.cell? ⟨g, 0, none⟩ = some (.slice A1 ((feedL ([], o) (p.data.toList.take k)).2 ++ [p[k]]).length cap1) := hblk1.cell 0
        have c1 : w1.cell? ⟨g, 1, none⟩ = some (.complex .f64 (W (zOf ((feedL ([], o) (p.data.toList.take k)).2 ++ [p[k]])).1) (W (zOf ((feedL ([], o) (p.data.toList.take k)).2 ++ [p[k]])).2)) := hblk1.cell 1
        clear hblk1 hcc hst
        obtain ⟨n1, hn1⟩ : ∃ n1, ((feedL ([], o) (p.data.toList.take k)).2 ++ [p[k]]).length = n1 := ⟨_, rfl⟩
        obtain ⟨z1, z2, hz⟩ : ∃ z1 z2, zOf ((feedL ([], o) (p.data.toList.take k)).2 ++ [p[k]]) = (z1, z2) := ⟨_, _, rfl⟩
        rw [hn1] at c0 hlen
        rw [hz] at c1 hzb
        simp only at c1 hzb
        have HN := Lib.hid hn1
        have HZ := Lib.hid hz
        clear hn1 hz
        by_cases h128 : n1 = 128
        · subst h128
          have HE := Lib.hid (feedE_of hlt HJ.out hc1 hf1 (endsB_full HN.out))
          go_wp2
          go_step3
          exact feed_at1 k (by omega) (by omega) HE.out (by omega)
        · by_cases h16 : n1 < 16
          · have HE := Lib.hid (feedJ_next hlt HJ.out hc1 hf1 (endsB_small HN.out h16))
            go_wp2
            go_step3
            exact feed_at0 (k + 1) (by omega) (by omega) HE.out (by omega)
          · have hce := endsB_cell HN.out HZ.out h128 (by omega)
            by_cases hcell : (z1 + 3 * z2) % 16 = 0
            · have HE := Lib.hid (feedE_of hlt HJ.out hc1 hf1 (by rw [hce, hcell]; rfl))
              clear hce
              go_wp2_with fail
              refine (cell_any 16 z1 z2 _ (by omega) (by omega) (by omega) (by omega)).mono ?_
              rintro e w' ⟨rfl, rfl⟩
              rw [hcell]
              clear hcell
              go_wp2_with fail
              go_step3
              go_wp2_with fail
              refine (end_any base g _ _ hc1).mono ?_
              rintro e w2 ⟨rfl, hc2, hf2⟩
              have hownE := feedE_own HE.out hf2
              have hbs : w.heap.size ≤ w2.heap.size := Nat.le_trans hwb hf2.below.size
              go_wp2_with (at_builtin; refine wpList_append_own _ rfl (.tmp 41) (.tmp 44) 41 rfl w.heap.size 9 i9 (.string ByteArray.empty) 1 16 Try.underlying41 hi9 hz9 hs9 hb9 rfl (by decide) (.slice A _ cap) _ _ rfl (World.ownsRow.alloc hownE _) ⟨w2.heap.size, 0, none⟩ 1 1 [_] rfl rfl (cell_new_of _ _ _ _ rfl) ?_ ?_ ?_ ?_ ?_)
              · intro u hu; have := List.mem_singleton.1 hu; subst this; rfl
              · unfold maxLen; omega
              · omega
              · simp; omega
              intro v' w3 hown3 hg3 _
              have hJ' := Lib.hid (feedJ_cut hb HE.out hc2 hf2 hown3 hg3)
              clear hown3 hg3 hownE
              go_wp2
              go_step3
              exact feed_at0 (k + 1) (by omega) (by omega) hJ'.out (by omega)
            · have HE := Lib.hid (feedJ_next hlt HJ.out hc1 hf1 (by rw [hce]; simpa using hcell))
              clear hce
              have hcell' : ((z1 + 3 * z2) % 16 != 0) = true := by simpa using hcell
              clear hcell
              go_wp2_with fail
              refine (cell_any 16 z1 z2 _ (by omega) (by omega) (by omega) (by omega)).mono ?_
              rintro e w' ⟨rfl, rfl⟩
              go_wp2
              go_step3
              exact feed_at0 (k + 1) (by omega) (by omega) HE.out (by omega)
      · obtain rfl : k = p.size := by omega
        have HJ := Lib.hid hJ
        clear hJ
        go_wp2
        simp only [Jumps]
        go_ret
        have hJ := HJ.out
        have ht : p.data.toList.take p.size = p.data.toList := List.take_of_length_le (by simp)
        unfold FeedJ at hJ
        rw [ht] at hJ
        exact ⟨A, cap, by rw [ht]; rfl, hJ.1, hJ.2⟩
    · by_cases hl1 : l = 1
      · subst hl1
        obtain ⟨k, i, v, u9, u10, u11, u12, u13, u14, u15, u16, u17, u18, u19, u20, u21, u22, u23, u24, u25, u26, u27, u28, u29, u30, u31, u32, u33, u34, u35, u36, u37, u38, u39, u40, u41, u42, u43, u44, u45, rfl, rfl, hk, hJ⟩ := hJ
        refine ⟨_, rfl, ?_⟩
        have hmu : feedMu p 1 { tmps := #[.pointer (some ⟨g, 0, none⟩), .string p, undef, undef, .slice none 0 0, v, .int .i64 ((k : Int) + 1), .pointer (some ⟨g, 0, none⟩), .bool false, u9, u10, u11, u12, u13, u14, u15, u16, u17, u18, u19, u20, u21, u22, u23, u24, u25, u26, u27, u28, u29, u30, u31, u32, u33, u34, u35, u36, u37, u38, u39, u40, u41, u42, u43, u44, u45], defers := [] } wr = 2 * (p.size - (k + 1)) + 1 := by
          have : ((k : Int) + 1).toNat = k + 1 := by omega
          simp [feedMu, intOf, this]
        rw [hmu]
        clear hmu
        obtain ⟨A, cap, rfl⟩ := own_slice hJ.2.1
        have hk1 : k < p.size := by omega
        have hc1 : CutAt wr base g ((feedL ([], o) (p.data.toList.take k)).2 ++ [p[k]]) := hJ.2.2.1
        have hwb : w.heap.size ≤ wr.heap.size := hJ.2.2.2.1.below.size
        have hcnt := feed_count o p k
        have HE := Lib.hid hJ
        clear hJ hl0
        go_wp2_with fail
        refine (end_any base g _ _ hc1).mono ?_
        rintro e w2 ⟨rfl, hc2, hf2⟩
        have hownE := feedE_own HE.out hf2
        have hbs : w.heap.size ≤ w2.heap.size := Nat.le_trans hwb hf2.below.size
        go_wp2_with (at_builtin; refine wpList_append_own _ rfl (.tmp 41) (.tmp 44) 41 rfl w.heap.size 9 i9 (.string ByteArray.empty) 1 16 Try.underlying41 hi9 hz9 hs9 hb9 rfl (by decide) (.slice A _ cap) _ _ rfl (World.ownsRow.alloc hownE _) ⟨w2.heap.size, 0, none⟩ 1 1 [_] rfl rfl (cell_new_of _ _ _ _ rfl) ?_ ?_ ?_ ?_ ?_)
        · intro u hu; have := List.mem_singleton.1 hu; subst this; rfl
        · unfold maxLen; omega
        · omega
        · simp; omega
        intro v' w3 hown3 hg3 _
        have hJ' := Lib.hid (feedJ_cut hb HE.out hc2 hf2 hown3 hg3)
        clear hown3 hg3 hownE
        go_wp2
        go_step3
        exact feed_at0 (k + 1) (by omega) (by omega) hJ'.out (by omega)
      · exact absurd hJ (by
          unfold FeedAt
          match l, hl0, hl1 with
          | n + 2, _, _ => exact id)
end Go.Proofs.Ytackgamdjeidmaa

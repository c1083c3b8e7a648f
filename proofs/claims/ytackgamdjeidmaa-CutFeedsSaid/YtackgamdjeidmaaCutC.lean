/- The walks over cut.Cut, the reference's Cut and Same. -/
import Derived.Test.YtackgamdjeidmaaCutF
namespace Go.Proofs.Ytackgamdjeidmaa
open Go.RowKit

/-- A list of texts in memory of the call's own. -/
def Texts (w : World) (B : Nat) (l : List (List UInt8)) (v : Value) : Prop := ∃ A cap, v = .slice A l.length cap ∧ w.ownsRow B 9 1 (.slice A l.length cap) l.length (strVals l)
def RetTexts (B : Nat) (l : List (List UInt8)) (w : World) (e : Ending) (w' : World) : Prop := ∃ v, e = .returned v ∧ Texts w' B l v ∧ Below B w w'

theorem own_lower {w : World} {B B' : Nat} {e : TypeId} {size n : Nat} {v : Value} {xs : List Value} (h : w.ownsRow B e size v n xs) (hB : B' ≤ B) : w.ownsRow B' e size v n xs := by
  refine ⟨h.1, ?_⟩
  rcases h.2 with h1 | ⟨g', cap, cur, hv, h2, h3⟩
  · exact Or.inl h1
  · exact Or.inr ⟨g', cap, cur, hv, by omega, h3⟩

theorem texts_snoc {w' : World} {B : Nat} {l : List (List UInt8)} {x : List UInt8} {v : Value} (h : w'.ownsRow B 9 1 v (l.length + 1) (strVals l ++ [.string ⟨x.toArray⟩])) : Texts w' B (l ++ [x]) v := by
  obtain ⟨A, cap, rfl⟩ := own_slice h
  refine ⟨A, cap, by simp, ?_⟩
  rw [strVals_snoc, List.length_append, List.length_singleton]
  exact h

theorem fin_none {st : List (List UInt8) × List UInt8} (h : st.2 = []) : finL st = st.1 := by unfold finL; rw [if_pos h]
theorem fin_some {st : List (List UInt8) × List UInt8} (h : st.2 ≠ []) : finL st = st.1 ++ [st.2] := by unfold finL; rw [if_neg h]

set_option maxHeartbeats 1000000 in
theorem cut_any (s : ByteArray) (w : World) (hs : s.size ≤ 6000) :
    Calls Try.prog 25 #[.string s] w (RetTexts w.heap.size (cutL s.data.toList) w) := by
  obtain ⟨i9, hi9, hz9, hs9, hb9⟩ := info_parts Try.info9
  have hcnt := feed_count [] s s.size
  rw [show s.data.toList.take s.size = s.data.toList from List.take_of_length_le (by simp)] at hcnt
  have hcut : cutL s.data.toList = finL (feedL ([], []) s.data.toList) := rfl
  rw [hcut]
  clear hcut
  go_enter Try.func25, Try.ntmps25
  go_wp2_with fail
  refine (new_any w).mono ?_
  rintro e w1 ⟨rfl, hw1⟩
  have hn1 : CutAt w1 w.heap.size w.heap.size [] := by rw [hw1]; exact cutAt_new (Nat.le_refl _)
  have hsz : w1.heap.size = w.heap.size + 1 := by rw [hw1]; simp
  have hb1 : Below w.heap.size w w1 := by rw [hw1]; exact (Below.refl _ _).alloc (Nat.le_refl _) _
  have hle : w.heap.size ≤ w1.heap.size := hb1.size
  clear hw1 hsz
  go_wp2_with fail
  refine (feed_any w.heap.size w.heap.size [] s w1 hn1 hle (by simp) hs).mono ?_
  rintro e w2 ⟨A, cap, rfl, hown, hc, hf⟩
  generalize feedL ([], []) s.data.toList = st at *
  have hown := own_lower hown hle
  go_wp2_with fail
  refine (end_any _ _ _ _ hc).mono ?_
  rintro e w3 ⟨rfl, hc3, hf3⟩
  obtain ⟨_, A1, cap1, hblk, _⟩ := hc
  have hown3 := own_fr hown hblk hf3
  have hb3 := hb1.trans (hf.below.trans hf3.below)
  clear hown hblk hf hf3 hc3 hn1
  by_cases h0 : st.2 = []
  · have HF := Lib.hid (fin_none h0)
    rw [h0]
    clear h0
    have HO := Lib.hid hown3
    clear hown3
    go_wp2
    go_ret
    refine ⟨_, rfl, ?_, hb3⟩
    rw [HF.out]
    exact ⟨A, cap, rfl, HO.out⟩
  · have HF := Lib.hid (fin_some h0)
    have h1 : (st.2.toArray.toList.isEmpty) = false := by simpa using h0
    have h2 : st.2.isEmpty = false := by simpa using h0
    clear h0
    go_wp2_with (at_builtin; refine wpList_append_own _ rfl (.tmp 14) (.tmp 16) 41 rfl w.heap.size 9 i9 (.string ByteArray.empty) 1 16 Try.underlying41 hi9 hz9 hs9 hb9 rfl (by decide) (.slice A _ cap) _ _ rfl (World.ownsRow.alloc hown3 _) ⟨w3.heap.size, 0, none⟩ 1 1 [_] rfl rfl (cell_new_of _ _ _ _ rfl) ?_ ?_ ?_ ?_ ?_)
    · intro u hu; have := List.mem_singleton.1 hu; subst this; rfl
    · unfold maxLen; omega
    · omega
    · have := hb3.size; simp; omega
    intro v' w4 hown4 hg4 _
    have HT := Lib.hid (texts_snoc hown4)
    have hb4 : Below w.heap.size w w4 := (hb3.alloc hb3.size _).grown hg4 (by have := hb3.size; simp; omega) fun k hk => (hown3.lt k hk).1
    clear hown4 hg4 hown3
    go_wp2
    go_ret
    refine ⟨_, rfl, ?_, hb4⟩
    rw [HF.out]
    exact HT.out

/-- The cells of a list of texts. -/
def ReadsT (w : World) (b off : Nat) (l : List (List UInt8)) : Prop := ∀ j (h : j < l.length), w.cell? ⟨b, off + j, none⟩ = some (.string ⟨l[j].toArray⟩)
/-- A slice that reads as these texts. -/
def TextsAt (w : World) (B : Nat) (l : List (List UInt8)) (A : Option Addr) : Prop := l ≠ [] → ∃ b off, A = some ⟨b, off, none⟩ ∧ b < B ∧ ReadsT w b off l

theorem TextsAt.of_own {w : World} {B cap : Nat} {l : List (List UInt8)} {A : Option Addr} (h : w.ownsRow B 9 1 (.slice A l.length cap) l.length (strVals l)) : TextsAt w w.heap.size l A := by
  intro hne
  rcases h.2 with ⟨_, h0⟩ | ⟨g', cap', cur, hv, _, hh, _⟩
  · exact absurd (List.eq_nil_of_length_eq_zero h0) hne
  · injection hv with hA
    subst hA
    refine ⟨g', 0, rfl, Blk.lt (t := 9) (cs := cur) hh, fun j hj => ?_⟩
    rw [Nat.zero_add, h.cellAt j (by omega), strVals, List.getElem?_map, List.getElem?_eq_getElem hj]; rfl
theorem TextsAt.below {w w' : World} {B : Nat} {l : List (List UInt8)} {A : Option Addr} (h : TextsAt w B l A) (hb : Below B w w') : TextsAt w' B l A := by
  intro hne
  obtain ⟨b, off, hA, hlt, hr⟩ := h hne
  exact ⟨b, off, hA, hlt, fun j hj => (hb.cell (p := ⟨b, off + j, none⟩) hlt).trans (hr j hj)⟩
theorem TextsAt.more {w : World} {B B' : Nat} {l : List (List UInt8)} {A : Option Addr} (h : TextsAt w B l A) (hB : B ≤ B') : TextsAt w B' l A := by
  intro hne
  obtain ⟨b, off, hA, hlt, hr⟩ := h hne
  exact ⟨b, off, hA, by omega, hr⟩
theorem TextsAt.drewN {w : World} {B n : Nat} {l : List (List UInt8)} {A : Option Addr} (h : TextsAt w B l A) : TextsAt (w.drewN n) B l A := h

set_option maxHeartbeats 400000 in
theorem same_none (A A' : Option Addr) (c c' : Nat) (w : World) :
    Calls Try.prog 24 #[.slice A 0 c, .slice A' 0 c'] w fun e w' => e = .returned (.bool true) ∧ ∃ k, w' = w.drewN k := by
  go_enter Try.func24, Try.ntmps24
  go_wp2
  go_loop [5] (fun i => i = .int .i64 0) (fun _ => 0)
  case atStart => rfl
  case round =>
    obtain rfl := hrel
    go_wp2
    go_ret
    exact ⟨rfl, 0, rfl⟩

set_option maxHeartbeats 1000000 in
theorem same_some (b off b' off' c c' : Nat) (l : List (List UInt8)) (w : World) (h : ReadsT w b off l) (h' : ReadsT w b' off' l) (hl : l.length ≤ 7000) :
    Calls Try.prog 24 #[.slice (some ⟨b, off, none⟩) l.length c, .slice (some ⟨b', off', none⟩) l.length c'] w fun e w' => e = .returned (.bool true) ∧ ∃ k, w' = w.drewN k := by
  have H := Lib.hid h
  have H' := Lib.hid h'
  clear h h'
  go_enter Try.func24, Try.ntmps24
  go_wp2
  go_loopw [5] (fun i wr => ∃ k : Nat, k ≤ l.length ∧ i = .int .i64 k ∧ ∃ n, wr = w.drewN n) (fun i _ => l.length - (intOf i).toNat)
  case atStart => exact ⟨0, by omega, rfl, 0, rfl⟩
  case round =>
    obtain ⟨k, hk, rfl, hw⟩ := hrel
    by_cases hlt : k < l.length
    · have x0 : wr.cell? ⟨b, off + k, none⟩ = some (.string ⟨l[k].toArray⟩) := by
        obtain ⟨n, rfl⟩ := hw; exact H.out k hlt
      have y0 : wr.cell? ⟨b', off' + k, none⟩ = some (.string ⟨l[k].toArray⟩) := by
        obtain ⟨n, rfl⟩ := hw; exact H'.out k hlt
      have HW := Lib.hid hw
      clear hw
      generalize l[k].toArray = x at *
      go_wp2
      go_quiet (fail)
      go_wp2
      go_roundw
      case rel =>
        obtain ⟨n3, hn⟩ := HW.out
        exact ⟨k + 1, by omega, by go_num, n3 + nq, by rw [hn, World.drewN_drewN]⟩
      case measure => simp [intOf]; omega
    · have HW := Lib.hid hw
      clear hw
      go_wp2
      go_ret
      exact ⟨rfl, HW.out⟩

theorem same_any (A A' : Option Addr) (c c' B B' : Nat) (l : List (List UInt8)) (w : World) (h : TextsAt w B l A) (h' : TextsAt w B' l A') (hl : l.length ≤ 7000) :
    Calls Try.prog 24 #[.slice A l.length c, .slice A' l.length c'] w fun e w' => e = .returned (.bool true) ∧ ∃ k, w' = w.drewN k := by
  by_cases h0 : l = []
  · subst h0; exact same_none A A' c c' w
  · obtain ⟨b, off, rfl, _, hr⟩ := h h0
    obtain ⟨b', off', rfl, _, hr'⟩ := h' h0
    exact same_some b off b' off' c c' l w hr hr' hl
end Go.Proofs.Ytackgamdjeidmaa

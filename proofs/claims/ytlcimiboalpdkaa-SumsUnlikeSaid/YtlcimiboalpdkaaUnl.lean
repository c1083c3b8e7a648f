/- The walk over cooperagelaw01.SumsUnlike: up to four bytes side by side, turned. -/
import Derived.Test.YtlcimiboalpdkaaAdds
import Derived.Test.YtlcimiboalpdkaaPost
import Derived.Lib.ConvBytes
namespace Go.Proofs.Ytlcimiboalpdkaa
open Go.RowKit

/-- A block whose first cells are these bytes. -/
def TB (w : World) (g : Nat) (L : List UInt8) : Prop := ∀ j (h : j < L.length), w.cell? ⟨g, j, none⟩ = some (.int .u8 (L[j].toNat : Int)) ∧ w.frozen? ⟨g, j, none⟩ = false
theorem TB.lt {w : World} {g : Nat} {L : List UInt8} (h : TB w g L) (hl : 0 < L.length) : g < w.heap.size := by
  rcases Nat.lt_or_ge g w.heap.size with h1 | h1
  · exact h1
  · have := (h 0 hl).1
    simp [World.cell?, Array.getElem?_eq_none h1] at this
theorem TB.set {w : World} {g : Nat} {L : List UInt8} (h : TB w g L) (k : Nat) (hk : k < L.length) (b : UInt8) : TB (w.setCell ⟨g, k, none⟩ (.int .u8 (b.toNat : Int))) g (L.set k b) := by
  intro j hj
  rw [List.length_set] at hj
  refine ⟨?_, by rw [World.frozen?_setCell]; exact (h j hj).2⟩
  by_cases e : k = j
  · subst e
    rw [World.cell?_setCell_same _ _ _ (h k hk).1, List.getElem_set_self]
  · rw [World.cell?_setCell_other _ _ _ _ (by intro e2; injection e2 with _ e3; exact e e3), (h j hj).1, List.getElem_set_ne e]
theorem conv_win (w : World) (s : ByteArray) : ∃ (cap : Nat) (w2 : World), (convert 9 31 (.string s)).run Try.prog w = .ok (.slice (some ⟨w.heap.size, 0, none⟩) s.size cap) w2 ∧ TB w2 w.heap.size s.data.toList ∧ w.grownBy w2 none := by
  refine ⟨_, _, Lib.run_convert_string_bytes w 9 31 5 s Try.underlying9 Try.underlying31 Try.underlying5, ?_, rfl, rfl, rfl, ?_, ?_⟩
  · intro j hj
    have hj' : j < s.size := by simpa using hj
    refine ⟨by rw [Lib.bytesWorld_cell w 5 s j hj']; simp [List.getD, hj'], ?_⟩
    simp [World.frozen?, Lib.bytesWorld_at_new, Lib.bytesCells]
    omega
  · rw [Lib.bytesWorld_size]; omega
  · intro i hi _
    exact Lib.bytesWorld_at_old w 5 s i hi

/-- The window, turned. -/
def turnL (l xs : List UInt8) : List UInt8 := List.zipWith (fun a b => a ^^^ b) l xs
def mixL (k : Nat) (l xs : List UInt8) : List UInt8 := (turnL l xs).take k ++ l.drop k
theorem turnL_length (l xs : List UInt8) (h : l.length ≤ xs.length) : (turnL l xs).length = l.length := by simp [turnL]; omega
theorem mixL_length (k : Nat) (l xs : List UInt8) (h : l.length ≤ xs.length) (hk : k ≤ l.length) : (mixL k l xs).length = l.length := by
  simp [mixL, turnL_length l xs h]; omega
theorem mixL_zero (l xs : List UInt8) : mixL 0 l xs = l := by simp [mixL]
theorem mixL_all (l xs : List UInt8) (h : l.length ≤ xs.length) : mixL l.length l xs = turnL l xs := by
  simp [mixL, List.take_of_length_le (Nat.le_of_eq (turnL_length l xs h))]
theorem mixL_get (k : Nat) (l xs : List UInt8) (h : l.length ≤ xs.length) (hk : k < l.length) (h2 : k < (mixL k l xs).length) : (mixL k l xs)[k] = l[k] := by
  simp only [mixL]
  rw [List.getElem_append_right (by simp [turnL_length l xs h]; omega)]
  simp [turnL_length l xs h, Nat.min_eq_left (Nat.le_of_lt hk)]
theorem mixL_set (k : Nat) (l xs : List UInt8) (h : l.length ≤ xs.length) (hk : k < l.length) : (mixL k l xs).set k (l[k] ^^^ xs[k]'(by omega)) = mixL (k + 1) l xs := by
  have ht := turnL_length l xs h
  apply List.ext_getElem
  · rw [List.length_set, mixL_length k l xs h (by omega), mixL_length (k + 1) l xs h (by omega)]
  · intro j h1 h2
    rw [List.length_set, mixL_length k l xs h (by omega)] at h1
    rw [List.getElem_set]
    by_cases e : k = j
    · subst e
      rw [if_pos rfl]
      simp only [mixL]
      rw [List.getElem_append_left (by simp [ht]; omega)]
      simp [turnL]
    · rw [if_neg e]
      simp only [mixL]
      by_cases hlt : j < k
      · rw [List.getElem_append_left (by simp [ht]; omega), List.getElem_append_left (by simp [ht]; omega)]
        simp
      · rw [List.getElem_append_right (by simp [ht]; omega), List.getElem_append_right (by simp [ht]; omega)]
        simp only [List.length_take, ht, List.getElem_drop]
        congr 1
        omega

-- BEHIND
theorem app_end (x a : ByteArray) : x ++ a.extract a.size a.size = x := by simp
theorem Blk.set_far {w : World} {g h : Nat} {t : TypeId} {cs : Array Value} (b : Blk w g t cs) (i : Nat) (u : Value) (hne : g ≠ h) : Blk (w.setCell ⟨h, i, none⟩ u) g t cs := by
  unfold Blk at b ⊢
  simp [World.setCell, Array.getElem?_modify, b, Ne.symm hne]
theorem grown_set0 {W w : World} {g : Nat} (h : W.grownBy w none) (hg : W.heap.size ≤ g) (i : Nat) (u : Value) : W.grownBy (w.setCell ⟨g, i, none⟩ u) none := by
  refine ⟨h.os, h.tape, h.output, ?_, ?_⟩
  · simp only [World.setCell, Array.size_modify]; exact h.size
  · intro j hj hn
    rw [← h.block j hj hn]
    simp only [World.setCell, Array.getElem?_modify]
    rw [if_neg (by omega)]
theorem addr_add (g j : Nat) : (⟨g, 0, none⟩ : Addr).add j = ⟨g, j, none⟩ := by cases j <;> simp [Addr.add]
theorem unl_data (a0 : ByteArray) (n E : Nat) (T : List UInt8) : (a0.extract 0 n ++ ByteArray.mk T.toArray ++ a0.extract E a0.size).data.toList = a0.data.toList.take n ++ T ++ a0.data.toList.drop E := by
  simp only [ByteArray.data_append, ByteArray.data_extract, Array.toList_append, Array.toList_extract, List.extract_eq_take_drop]
  rw [List.drop_zero, Nat.sub_zero]
  congr 1
  rw [List.take_of_length_le (by simp)]
theorem unl_law (a0 : ByteArray) (n E : Nat) (T l : List UInt8) (hnE : n ≤ E) (hE : E ≤ a0.size) (hl : l = (a0.extract n E).data.toList) (hT : T.length = l.length) (h4 : l.length ≤ 4)
    (hne : ¬ (a0.extract 0 n ++ ByteArray.mk T.toArray ++ a0.extract E a0.size).toList = a0.toList) :
    crcL (a0.extract 0 n ++ ByteArray.mk T.toArray ++ a0.extract E a0.size).data.toList ≠ crcL a0.data.toList := by
  have hs : a0.data.toList = a0.data.toList.take n ++ l ++ a0.data.toList.drop E := by
    rw [hl, ByteArray.data_extract, Array.toList_extract, List.extract_eq_take_drop, List.append_assoc]
    conv => lhs; rw [← List.take_append_drop n a0.data.toList]
    congr 1
    conv => lhs; rw [← List.take_append_drop (E - n) (a0.data.toList.drop n)]
    rw [List.drop_drop, show n + (E - n) = E by omega]
  have hd := unl_data a0 n E T
  have hTl : T ≠ l := by
    intro e
    apply hne
    subst e
    rw [← hs] at hd
    congr 1
    exact ByteArray.ext (Array.toList_inj.1 hd)
  have := crcL_unlike (a := a0.data.toList.take n) (b := a0.data.toList.drop E) hT (by omega) hTl
  rw [← hs] at this
  rw [hd]
  exact this
theorem cells4 (y0 y1 y2 y3 : UInt8) (k : Nat) (h : k < 4) : (#[.int .u8 (y0.toNat : Int), .int .u8 (y1.toNat : Int), .int .u8 (y2.toNat : Int), .int .u8 (y3.toNat : Int)] : Array Value)[k]? = some (.int .u8 (([y0, y1, y2, y3][k]'(by simpa using h)).toNat : Int)) := by
  match k, h with
  | 0, _ => rfl
  | 1, _ => rfl
  | 2, _ => rfl
  | 3, _ => rfl

set_option maxHeartbeats 2000000 in
theorem unlike_full (a0 : ByteArray) (n : Nat) (hs : a0.size ≤ 5000) (hn : n < a0.size) (hE : n + 4 ≤ a0.size) (y0 y1 y2 y3 : UInt8) (w : World) :
    Calls Try.prog 6 #[.string a0, .int .i64 n, .agg #[.int .u8 (y0.toNat : Int), .int .u8 (y1.toNat : Int), .int .u8 (y2.toNat : Int), .int .u8 (y3.toNat : Int)]] w fun e w' => e = .returned (.bool true) ∧ Below w.heap.size w w' := by
  go_enter Try.func6, Try.ntmps6
  go_wp2_with fail
  refine (adds_any _).mono ?_
  rintro e W1 ⟨rfl, hG⟩
  have hblk : Blk W1 w.heap.size 30 #[.int .u8 (y0.toNat : Int), .int .u8 (y1.toNat : Int), .int .u8 (y2.toNat : Int), .int .u8 (y3.toNat : Int)] := (hG.block _ (Blk.new w 30 _).lt (by simp)).trans (Blk.new w 30 _)
  have hW1 : w.heap.size < W1.heap.size := hblk.lt
  have hG1 : w.grownBy W1 none := (World.grownBy_alloc w _ none).trans hG
  clear hG
  obtain ⟨cap, W2, hconv, hT, hG2⟩ := conv_win W1 (a0.extract n (n + 4))
  have hwl : (a0.extract n (n + 4)).size = (n + 4) - n := by rw [ByteArray.size_extract]; omega
  obtain ⟨l, hl⟩ : ∃ l, l = (a0.extract n (n + 4)).data.toList := ⟨_, rfl⟩
  have hll0 : l.length = (n + 4) - n := by rw [hl, Array.length_toList]; exact hwl
  obtain ⟨N, hN⟩ : ∃ N : Nat, N = (n + 4) - n := ⟨_, rfl⟩
  rw [hwl, ← hN] at hconv
  have hll : l.length = N := by rw [hN]; exact hll0
  have hN4 : N ≤ 4 := by omega
  have HN := Lib.hid hN
  clear hN hwl hll0
  rw [← hl] at hT
  have hblk2 : Blk W2 w.heap.size 30 _ := (hG2.block _ hW1 (by simp)).trans hblk
  have hG3 : w.grownBy W2 none := hG1.trans hG2
  clear hblk hG1 hG2
  have hys : l.length ≤ [y0, y1, y2, y3].length := by simp; omega
  have HL := Lib.hid hl
  clear hl
  have hlt : ¬ ((a0.size : Int) < (n : Int) + 4) := by omega
  have hto : ((n : Int) + 4).toNat = n + 4 := by omega
  have g1 : ¬ a0.size ≤ n := by omega
  go_wp2_with fail
  go_loopw [9, 38] (fun _ i wr => ∃ k : Nat, k ≤ l.length ∧ i = .int .i64 k ∧ TB wr W1.heap.size (mixL k l [y0, y1, y2, y3]) ∧ Blk wr w.heap.size 30 #[.int .u8 (y0.toNat : Int), .int .u8 (y1.toNat : Int), .int .u8 (y2.toNat : Int), .int .u8 (y3.toNat : Int)] ∧ w.grownBy wr none) (fun _ i _ => l.length - (intOf i).toNat)
  case atStart => exact ⟨0, by omega, rfl, by rw [mixL_zero]; exact hT, hblk2, hG3⟩
  case round =>
    obtain ⟨k, hk, rfl, hTk, hbk, hgk⟩ := hrel
    by_cases hlt2 : k < l.length
    · have c1 := (hTk k (by rw [mixL_length k l _ hys hk]; exact hlt2)).1
      have f1 := (hTk k (by rw [mixL_length k l _ hys hk]; exact hlt2)).2
      rw [mixL_get k l _ hys hlt2] at c1
      obtain ⟨x, hx⟩ : ∃ x, x = [y0, y1, y2, y3][k]'(by omega) := ⟨_, rfl⟩
      have c2 : wr.cell? ⟨w.heap.size, k, none⟩ = some (.int .u8 (x.toNat : Int)) := by
        rw [hbk.cell k, hx]
        exact cells4 y0 y1 y2 y3 k (by omega)
      have hxor := u8_xor_nat l[k].toNat x.toNat l[k].toNat_lt x.toNat_lt
      rw [← UInt8.toNat_xor] at hxor
      have HT := Lib.hid hTk
      have HX := Lib.hid hxor
      have HE := Lib.hid hx
      have hk4 : k < 4 := by omega
      have q0 : (0 : Int) ≤ (k : Int) := by omega
      have q1 : (k : Int) < (N : Int) := by omega
      have q2 : (k : Int) < 4 := by omega
      clear hTk hxor hx hblk2 hT hconv
      go_wp2_with fail
      refine wp_region_quiet_tail 9 (by kernel_rfl) (by kernel_rfl) ?_
      simp only [List.take_succ_cons, List.take_zero, List.drop_succ_cons, List.drop_zero]
      repeat (quiet_step (fail))
      refine wpQuiet_nil ?_
      intro m
      go_wp2_with fail
      refine ⟨⟨k + 1, by omega, rfl, ?_, ?_, ?_⟩, ?_⟩
      · rw [HX.out, ← mixL_set k l _ hys hlt2, ← HE.out]
        have hT1 : TB (wr.drewN m) W1.heap.size (mixL k l [y0, y1, y2, y3]) := HT.out
        exact hT1.set k (by rw [mixL_length k l _ hys hk]; exact hlt2) _
      · exact (hbk.drewN m).set_far _ _ (by omega)
      · exact grown_set0 (w := wr.drewN m) ⟨hgk.os, hgk.tape, hgk.output, hgk.size, hgk.block⟩ (by omega) _ _
      · show l.length - ((k : Int) + 1).toNat < l.length - (k : Int).toNat
        omega
    · have hkl : k = l.length := by omega
      subst hkl
      rw [mixL_all l _ hys] at hTk
      have htl : (turnL l [y0, y1, y2, y3]).length = N := by rw [turnL_length l _ hys]; exact hll
      obtain ⟨T, hTT⟩ : ∃ T, T = turnL l [y0, y1, y2, y3] := ⟨_, rfl⟩
      rw [← hTT] at hTk htl
      have hcb : ∀ m, (convert 31 9 (.slice (some ⟨W1.heap.size, 0, none⟩) N cap)).run Try.prog (wr.drewN m) = .ok (.string ⟨T.toArray⟩) (wr.drewN m) := by
        intro m
        have h := run_convert_bytes_back (P := Try.prog) (wr.drewN m) 31 9 5 ⟨W1.heap.size, 0, none⟩ cap T Try.underlying31 Try.underlying5 Try.underlying9 (fun j hj => by
          rw [addr_add]
          exact (hTk j hj).1)
        rw [htl] at h
        exact h
      have hsz : (a0.extract 0 n ++ ByteArray.mk T.toArray ++ a0.extract (n + 4) a0.size).size ≤ 6000 := by
        simp only [ByteArray.size_append, ByteArray.size_extract]
        have : (ByteArray.mk T.toArray).size = T.length := rfl
        omega
      have HTT := Lib.hid hTT
      clear hTT hTk hblk2 hT hconv hbk
      go_wp2_with fail
      go_quiet (fail)
      go_wp2_with fail
      · go_ret
        exact ⟨rfl, below_of_grown ⟨hgk.os, hgk.tape, hgk.output, hgk.size, hgk.block⟩⟩
      · rename_i hno _ _
        have hcrc := unl_law a0 n (n + 4) T l (by omega) (by omega) HL.out (by omega) (by omega) hno
        have K1 : Hid (∀ v, _) := fun v => check_any _ v hsz
        have K2 : Hid (∀ v, _) := fun v => check_any a0 v (by omega)
        generalize crcL (a0.extract 0 n ++ ByteArray.mk T.toArray ++ a0.extract (n + 4) a0.size).data.toList = c1 at *
        generalize crcL a0.data.toList = c2 at *
        have hbn : ((c1 : Int) != (c2 : Int)) = true := by simp; omega
        refine (K1.out _).mono ?_
        rintro e W3 ⟨rfl, rfl⟩
        go_wp2_with fail
        refine (K2.out _).mono ?_
        rintro e W3 ⟨rfl, rfl⟩
        go_wp2_with fail
        go_ret
        exact ⟨rfl, below_of_grown ⟨hgk.os, hgk.tape, hgk.output, hgk.size, hgk.block⟩⟩
set_option maxHeartbeats 2000000 in
theorem unlike_short (a0 : ByteArray) (n : Nat) (hs : a0.size ≤ 5000) (hn : n < a0.size) (hE : a0.size < n + 4) (y0 y1 y2 y3 : UInt8) (w : World) :
    Calls Try.prog 6 #[.string a0, .int .i64 n, .agg #[.int .u8 (y0.toNat : Int), .int .u8 (y1.toNat : Int), .int .u8 (y2.toNat : Int), .int .u8 (y3.toNat : Int)]] w fun e w' => e = .returned (.bool true) ∧ Below w.heap.size w w' := by
  go_enter Try.func6, Try.ntmps6
  go_wp2_with fail
  refine (adds_any _).mono ?_
  rintro e W1 ⟨rfl, hG⟩
  have hblk : Blk W1 w.heap.size 30 #[.int .u8 (y0.toNat : Int), .int .u8 (y1.toNat : Int), .int .u8 (y2.toNat : Int), .int .u8 (y3.toNat : Int)] := (hG.block _ (Blk.new w 30 _).lt (by simp)).trans (Blk.new w 30 _)
  have hW1 : w.heap.size < W1.heap.size := hblk.lt
  have hG1 : w.grownBy W1 none := (World.grownBy_alloc w _ none).trans hG
  clear hG
  obtain ⟨cap, W2, hconv, hT, hG2⟩ := conv_win W1 (a0.extract n a0.size)
  have hwl : (a0.extract n a0.size).size = a0.size - n := by rw [ByteArray.size_extract]; omega
  obtain ⟨l, hl⟩ : ∃ l, l = (a0.extract n a0.size).data.toList := ⟨_, rfl⟩
  have hll0 : l.length = a0.size - n := by rw [hl, Array.length_toList]; exact hwl
  obtain ⟨N, hN⟩ : ∃ N : Nat, N = a0.size - n := ⟨_, rfl⟩
  rw [hwl, ← hN] at hconv
  have hll : l.length = N := by rw [hN]; exact hll0
  have hN4 : N ≤ 4 := by omega
  have HN := Lib.hid hN
  clear hN hwl hll0
  rw [← hl] at hT
  have hblk2 : Blk W2 w.heap.size 30 _ := (hG2.block _ hW1 (by simp)).trans hblk
  have hG3 : w.grownBy W2 none := hG1.trans hG2
  clear hblk hG1 hG2
  have hys : l.length ≤ [y0, y1, y2, y3].length := by simp; omega
  have HL := Lib.hid hl
  clear hl
  have hlt : (a0.size : Int) < (n : Int) + 4 := by omega
  have g1 : ¬ a0.size ≤ n := by omega
  go_wp2_with fail
  go_loopw [9, 38] (fun _ i wr => ∃ k : Nat, k ≤ l.length ∧ i = .int .i64 k ∧ TB wr W1.heap.size (mixL k l [y0, y1, y2, y3]) ∧ Blk wr w.heap.size 30 #[.int .u8 (y0.toNat : Int), .int .u8 (y1.toNat : Int), .int .u8 (y2.toNat : Int), .int .u8 (y3.toNat : Int)] ∧ w.grownBy wr none) (fun _ i _ => l.length - (intOf i).toNat)
  case atStart => exact ⟨0, by omega, rfl, by rw [mixL_zero]; exact hT, hblk2, hG3⟩
  case round =>
    obtain ⟨k, hk, rfl, hTk, hbk, hgk⟩ := hrel
    by_cases hlt2 : k < l.length
    · have c1 := (hTk k (by rw [mixL_length k l _ hys hk]; exact hlt2)).1
      have f1 := (hTk k (by rw [mixL_length k l _ hys hk]; exact hlt2)).2
      rw [mixL_get k l _ hys hlt2] at c1
      obtain ⟨x, hx⟩ : ∃ x, x = [y0, y1, y2, y3][k]'(by omega) := ⟨_, rfl⟩
      have c2 : wr.cell? ⟨w.heap.size, k, none⟩ = some (.int .u8 (x.toNat : Int)) := by
        rw [hbk.cell k, hx]
        exact cells4 y0 y1 y2 y3 k (by omega)
      have hxor := u8_xor_nat l[k].toNat x.toNat l[k].toNat_lt x.toNat_lt
      rw [← UInt8.toNat_xor] at hxor
      have HT := Lib.hid hTk
      have HX := Lib.hid hxor
      have HE := Lib.hid hx
      have hk4 : k < 4 := by omega
      have q0 : (0 : Int) ≤ (k : Int) := by omega
      have q1 : (k : Int) < (N : Int) := by omega
      have q2 : (k : Int) < 4 := by omega
      clear hTk hxor hx hblk2 hT hconv
      go_wp2_with fail
      refine wp_region_quiet_tail 9 (by kernel_rfl) (by kernel_rfl) ?_
      simp only [List.take_succ_cons, List.take_zero, List.drop_succ_cons, List.drop_zero]
      repeat (quiet_step (fail))
      refine wpQuiet_nil ?_
      intro m
      go_wp2_with fail
      refine ⟨⟨k + 1, by omega, rfl, ?_, ?_, ?_⟩, ?_⟩
      · rw [HX.out, ← mixL_set k l _ hys hlt2, ← HE.out]
        have hT1 : TB (wr.drewN m) W1.heap.size (mixL k l [y0, y1, y2, y3]) := HT.out
        exact hT1.set k (by rw [mixL_length k l _ hys hk]; exact hlt2) _
      · exact (hbk.drewN m).set_far _ _ (by omega)
      · exact grown_set0 (w := wr.drewN m) ⟨hgk.os, hgk.tape, hgk.output, hgk.size, hgk.block⟩ (by omega) _ _
      · show l.length - ((k : Int) + 1).toNat < l.length - (k : Int).toNat
        omega
    · have hkl : k = l.length := by omega
      subst hkl
      rw [mixL_all l _ hys] at hTk
      have htl : (turnL l [y0, y1, y2, y3]).length = N := by rw [turnL_length l _ hys]; exact hll
      obtain ⟨T, hTT⟩ : ∃ T, T = turnL l [y0, y1, y2, y3] := ⟨_, rfl⟩
      rw [← hTT] at hTk htl
      have hcb : ∀ m, (convert 31 9 (.slice (some ⟨W1.heap.size, 0, none⟩) N cap)).run Try.prog (wr.drewN m) = .ok (.string ⟨T.toArray⟩) (wr.drewN m) := by
        intro m
        have h := run_convert_bytes_back (P := Try.prog) (wr.drewN m) 31 9 5 ⟨W1.heap.size, 0, none⟩ cap T Try.underlying31 Try.underlying5 Try.underlying9 (fun j hj => by
          rw [addr_add]
          exact (hTk j hj).1)
        rw [htl] at h
        exact h
      have hsz : (a0.extract 0 n ++ ByteArray.mk T.toArray).size ≤ 6000 := by
        simp only [ByteArray.size_append, ByteArray.size_extract]
        have : (ByteArray.mk T.toArray).size = T.length := rfl
        omega
      have HTT := Lib.hid hTT
      clear hTT hTk hblk2 hT hconv hbk
      go_wp2_with fail
      go_quiet (fail)
      go_wp2_with fail
      · go_ret
        exact ⟨rfl, below_of_grown ⟨hgk.os, hgk.tape, hgk.output, hgk.size, hgk.block⟩⟩
      · rename_i hno _ _
        have hcrc := unl_law a0 n a0.size T l (by omega) (by omega) HL.out (by omega) (by omega) (by rw [app_end]; exact hno)
        rw [app_end] at hcrc
        have K1 : Hid (∀ v, _) := fun v => check_any _ v hsz
        have K2 : Hid (∀ v, _) := fun v => check_any a0 v (by omega)
        generalize crcL (a0.extract 0 n ++ ByteArray.mk T.toArray).data.toList = c1 at *
        generalize crcL a0.data.toList = c2 at *
        have hbn : ((c1 : Int) != (c2 : Int)) = true := by simp; omega
        refine (K1.out _).mono ?_
        rintro e W3 ⟨rfl, rfl⟩
        go_wp2_with fail
        refine (K2.out _).mono ?_
        rintro e W3 ⟨rfl, rfl⟩
        go_wp2_with fail
        go_ret
        exact ⟨rfl, below_of_grown ⟨hgk.os, hgk.tape, hgk.output, hgk.size, hgk.block⟩⟩

theorem unlike_out (a0 : ByteArray) (z : Int) (ho : ¬ (a0.size ≤ 5000 ∧ 0 ≤ z ∧ z < a0.size)) (c : Array Value) (w : World) (hc : c.size = 4) :
    Calls Try.prog 6 #[.string a0, .int .i64 z, .agg c] w fun e w' => e = .returned (.bool true) ∧ Below w.heap.size w w' := by
  go_enter Try.func6, Try.ntmps6
  go_wp2_with fail
  refine (adds_any _).mono ?_
  rintro e W1 ⟨rfl, hG⟩
  have hG1 : w.grownBy W1 none := (World.grownBy_alloc w _ none).trans hG
  go_wp2_with fail
  all_goals go_ret
  all_goals exact ⟨rfl, below_of_grown hG1⟩
end Go.Proofs.Ytlcimiboalpdkaa

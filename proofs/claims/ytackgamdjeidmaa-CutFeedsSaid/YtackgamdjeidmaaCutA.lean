/- The walk over the Cut laws' awake. -/
import Derived.Test.YtackgamdjeidmaaCutR
import Derived.Test.YtackgamdjeidmaaPost
import Derived.Laws.MakeOwn
namespace Go.Proofs.Ytackgamdjeidmaa
open Go.RowKit

def zeroCells40 : Array Value := Array.replicate 40 (.int .u8 0)
def zeros40 : ByteArray := ⟨(List.replicate 40 (0 : UInt8)).toArray⟩

theorem make40 (w : World) : (Instr.makeSlice 35 (.int .i64 40) (.int .i64 40)).run Try.prog w = .ok (.slice (some ⟨w.heap.size, 0, none⟩) 40 40) (w.alloc (.cells zeroCells40 5)) := by kernel_rfl
theorem conv40 (w : World) : (convert 35 9 (.slice (some ⟨w.heap.size, 0, none⟩) 40 40)).run Try.prog (w.alloc (.cells zeroCells40 5)) = .ok (.string zeros40) (w.alloc (.cells zeroCells40 5)) := by
  refine run_convert_bytes_back _ 35 9 5 ⟨w.heap.size, 0, none⟩ 40 (List.replicate 40 (0 : UInt8)) Try.underlying35 Try.underlying5 Try.underlying9 ?_
  intro j hj
  have h : (w.alloc (.cells zeroCells40 5)).cell? ⟨w.heap.size, j, none⟩ = _ := World.cell?_alloc_mark w _ 5 (0, 0) j
  have hadd : (Addr.mk w.heap.size 0 none).add j = ⟨w.heap.size, j, none⟩ := by
    unfold Addr.add
    by_cases h0 : j = 0
    · subst h0; rfl
    · simp [h0]
  have hj' : j < 40 := by simpa using hj
  rw [hadd, h]
  rw [List.getElem_replicate]
  unfold zeroCells40
  rw [Array.getElem?_replicate, if_pos hj']; rfl

theorem cut40 : cutL zeros40.data.toList = [List.replicate 16 0, List.replicate 16 0, List.replicate 8 0] := by decide +kernel
theorem feed_abc : feedL ([], []) (ByteArray.mk #[97, 98, 99]).data.toList = ([], [97, 98, 99]) := by decide +kernel

set_option maxHeartbeats 2000000 in
theorem cutAwake_any (w : World) : Calls Try.prog 23 #[] w fun e w' => e = .returned (.bool true) ∧ Below w.heap.size w w' := by
  have hmk := make40
  have hcv := conv40
  go_enter Try.func23, Try.ntmps23
  go_wp2_with fail
  refine (cut_any zeros40 _ (by decide)).mono ?_
  rintro e w1 ⟨v, rfl, ⟨A, cap, rfl, hown⟩, hb1⟩
  clear hmk hcv
  have hT := TextsAt.of_own hown
  rw [cut40] at hT
  obtain ⟨b, off, rfl, hblt, hr⟩ := hT (by simp)
  have x0 := hr 0 (by decide)
  have x2 := hr 2 (by decide)
  have hb1 : Below w.heap.size w w1 := ((Below.refl _ _).alloc (Nat.le_refl _) _).trans (hb1.mono (by simp))
  have el : (cutL zeros40.data.toList).length = 3 := by rw [cut40]; rfl
  rw [el]
  clear hown hT hr el
  go_wp2_with fail
  refine (new_any w1).mono ?_
  rintro e w2 ⟨rfl, hw2⟩
  have hn : CutAt w2 w1.heap.size w1.heap.size [] := by rw [hw2]; exact cutAt_new (Nat.le_refl _)
  have hB2 : Below w1.heap.size w1 w2 := by rw [hw2]; exact (Below.refl _ _).alloc (Nat.le_refl _) _
  clear hw2
  go_wp2_with fail
  refine (feed_any w1.heap.size w1.heap.size [] ⟨#[97, 98, 99]⟩ w2 hn hB2.size (by simp) (by decide)).mono ?_
  rw [feed_abc]
  rintro e w3 ⟨A3, cap3, rfl, _, hc3, hf3⟩
  have hB3 := hB2.trans hf3.below
  have x0 := (hB3.cell (p := ⟨b, off + 0, none⟩) hblt).trans x0
  have x2 := (hB3.cell (p := ⟨b, off + 2, none⟩) hblt).trans x2
  simp only [Nat.add_zero] at x0
  go_wp2_with fail
  refine (end_any _ _ _ _ hc3).mono ?_
  rintro e w4 ⟨rfl, hc4, hf4⟩
  go_wp2_with fail
  refine (end_any _ _ _ _ hc4).mono ?_
  rintro e w5 ⟨rfl, hc5, hf5⟩
  go_wp2
  go_ret
  exact ⟨rfl, hb1.trans ((hB3.trans (hf4.below.trans hf5.below)).mono hb1.size)⟩

theorem own_cap {w : World} {B n cap : Nat} {A : Option Addr} {xs : List Value} (h : w.ownsRow B 9 1 (.slice A n cap) n xs) : n ≤ cap := by
  rcases h.2 with ⟨h1, h2⟩ | ⟨g', cap', cur, h1, _, _, h3, _⟩
  · omega
  · injection h1 with _ _ h1; omega
theorem bytes_nil {s : ByteArray} (h : s.data.toList = []) : s = ByteArray.mk #[] := by
  cases s with
  | mk d => cases d with | mk l => rw [show l = [] from h]
theorem bytes_ext {s t : ByteArray} (h : s.data.toList = t.data.toList) : s = t := by
  cases s with
  | mk d => cases t with
    | mk e => cases d with | mk l => cases e with | mk m => rw [show l = m from h]

theorem flatten_take_le (L : List (List UInt8)) (k : Nat) : (L.take k).flatten.length ≤ L.flatten.length := by
  conv => rhs; rw [← List.take_append_drop k L]
  rw [List.flatten_append, List.length_append]; omega
theorem size_of_flat {al s : ByteArray} {L : List (List UInt8)} {k : Nat} (h : al.data.toList = (L.take k).flatten) (hs : L.flatten = s.data.toList) : al.size ≤ s.size := by
  rw [← bytes_length al, ← bytes_length s, h, ← hs]; exact flatten_take_le L k

theorem slice_from (s : ByteArray) (k : Nat) (h : k ≤ s.size) (w : World) : (Instr.slice 9 (.string s) (some (.int .i64 (k : Int))) none none).run Try.prog w = .ok (.string (s.extract k s.size)) w := by
  rw [run_slice_string_from_if w 9 s .i64 (k : Int) Try.underlying9, if_pos ⟨by omega, by omega⟩, Int.toNat_natCast]

theorem elem41 : Try.prog.elem 41 = 9 := by kernel_rfl
theorem size9 (w : World) : (sizeOf 9).run Try.prog w = .ok 1 w := by kernel_rfl
theorem slice_tail (b off cap n : Nat) (h : n + 1 ≤ cap) (w : World) : (Instr.slice 41 (.slice (some ⟨b, off, none⟩) (n + 1) cap) (some (.int .i64 1)) none none).run Try.prog w = .ok (sliced (some ⟨b, off, none⟩) 1 (n + 1) cap 1) w := by
  rw [run_slice_l w 41 (some ⟨b, off, none⟩) (n + 1) cap (by rw [elem41]; exact Try.underlying41) .i64 1 (by omega) (by omega), elem41, size9]; rfl
theorem slice_head (A : Option Addr) (cap n k : Nat) (h : k ≤ cap) (w : World) : (Instr.slice 41 (.slice A n cap) none (some (.int .i64 (k : Int))) none).run Try.prog w = .ok (sliced A 0 k cap 1) w := by
  rw [run_slice_h w 41 A n cap (by rw [elem41]; exact Try.underlying41) .i64 (k : Int) (by omega) (by omega), elem41, size9]; rfl

theorem tail_at (b off cap n : Nat) (h : n + 1 ≤ cap) : ∃ A, (∀ w, (Instr.slice 41 (.slice (some ⟨b, off, none⟩) (n + 1) cap) (some (.int .i64 1)) none none).run Try.prog w = .ok (.slice A n (cap - 1)) w) ∧ (A = some ⟨b, off + 1, none⟩ ∨ n = 0) := by
  by_cases hc : cap = 1
  · refine ⟨some ⟨b, off, none⟩, fun w => ?_, Or.inr (by omega)⟩
    rw [slice_tail b off cap n h w]
    unfold sliced
    rw [if_pos hc, Nat.add_sub_cancel]
  · refine ⟨some ⟨b, off + 1, none⟩, fun w => ?_, Or.inl rfl⟩
    rw [slice_tail b off cap n h w]
    unfold sliced
    rw [if_neg hc, Nat.add_sub_cancel]; rfl
theorem tail_texts {w : World} {b off B : Nat} {x : List UInt8} {r : List (List UInt8)} {A : Option Addr} (h : ReadsT w b off (x :: r)) (hb : b < B) (hA : A = some ⟨b, off + 1, none⟩ ∨ r.length = 0) : TextsAt w B r A := by
  intro hne
  rcases hA with rfl | h0
  · refine ⟨b, off + 1, rfl, hb, fun j hj => ?_⟩
    have := h (j + 1) (by simp; omega)
    rw [show off + 1 + j = off + (j + 1) by omega, this]; rfl
  · exact absurd (List.eq_nil_of_length_eq_zero h0) hne

theorem below_undrew {B : Nat} {w w' : World} (h : Below B w.drew w') : Below B w w' := ⟨h.os, h.tape, h.output, h.size, h.block⟩
end Go.Proofs.Ytackgamdjeidmaa

/- The walks over sums.digit and sums.Hex. -/
import Derived.Test.YtlcimiboalpdkaaPrint
import Derived.Below
import Derived.OwnWalk
import Derived.Deep.RegionHeld3
import Derived.Deep.AppendLies
namespace Go.Proofs.Ytlcimiboalpdkaa
open Go.RowKit

/-- A digit's byte. -/
def digB (n : Nat) : Nat := if 9 < n then n + 87 else n + 48
theorem digB_lt {n : Nat} (h : n < 16) : digB n < 103 := by unfold digB; split <;> omega
theorem digit_any (n : Nat) (hn : n < 16) (w : World) : Calls Try.prog 28 #[.int .u8 n] w fun e w' => e = .returned (.int .u8 (digB n : Nat)) ∧ w = w' := by
  by_cases h : 9 < n
  · have e : digB n = n + 87 := if_pos h
    rw [e]
    go_enter Try.func28, Try.ntmps28
    go_wp2
    go_ret
    exact ⟨ret_int (by omega), rfl⟩
  · have e : digB n = n + 48 := if_neg h
    rw [e]
    go_enter Try.func28, Try.ntmps28
    go_wp2
    go_ret
    exact ⟨ret_int (by omega), rfl⟩

theorem digit_int (n : Int) (h0 : 0 ≤ n) (hn : n < 16) (w : World) : Calls Try.prog 28 #[.int .u8 n] w fun e w' => e = .returned (.int .u8 (digB n.toNat : Nat)) ∧ ∃ m, w' = w.drewN m := by
  have h := digit_any n.toNat (by omega) w
  rw [Int.toNat_of_nonneg h0] at h
  refine h.mono ?_
  rintro e w' ⟨rfl, rfl⟩
  exact ⟨rfl, 0, rfl⟩

theorem hi_nib (x : Nat) (hx : x < 256) : 0 ≤ IntKind.u8.wrap ((x : Int) / 16) ∧ IntKind.u8.wrap ((x : Int) / 16) < 16 ∧ (IntKind.u8.wrap ((x : Int) / 16)).toNat = x / 16 := by
  rw [show IntKind.u8.wrap ((x : Int) / 16) = (x : Int) / 16 from Go.IntWalk.u8_in _ (by omega)]
  omega
theorem lo_nib (x : Nat) : 0 ≤ (x : Int) % 16 ∧ (x : Int) % 16 < 16 ∧ ((x : Int) % 16).toNat = x % 16 := by omega

/-- Two digits. -/
def hexB (b : UInt8) : List UInt8 := [UInt8.ofNat (digB (b.toNat / 16)), UInt8.ofNat (digB (b.toNat % 16))]
def hexL (l : List UInt8) : List UInt8 := l.flatMap hexB
theorem hexL_snoc (l : List UInt8) (b : UInt8) : hexL (l ++ [b]) = hexL l ++ hexB b := by simp [hexL]
theorem hexL_length (l : List UInt8) : (hexL l).length = 2 * l.length := by
  induction l with
  | nil => rfl
  | cons b l ih => simp only [hexL, List.flatMap_cons, List.length_append] at *; rw [ih]; simp [hexB]; omega
def byteV (l : List UInt8) : List Value := l.map fun b => Value.int .u8 (b.toNat : Int)

theorem Try.info5 : (Try.prog.info? 5).map (fun i => (i.zero, i.size, i.bytes)) = some (some (.int .u8 0), 1, 1) := by kernel_rfl

theorem grown_alloc {W w : World} (h : W.grownBy w none) (o : Obj) : W.grownBy (w.alloc o) none := h.trans (World.grownBy_alloc w o none)
theorem conv_own {w : World} {base : Nat} {v : Value} {n : Nat} {l : List UInt8} (h : w.ownsRow base 5 1 v n (byteV l)) (hn : l.length = n) :
    (convert 31 9 v).run Try.prog w = .ok (.string ⟨l.toArray⟩) w := by
  subst hn
  rcases h.2 with ⟨rfl, h0⟩ | ⟨g, cap, cur, rfl, _⟩
  · have : l = [] := List.length_eq_zero_iff.1 h0
    subst this
    exact run_convert_bytes_nil w 31 5 Try.underlying31 Try.underlying5 0 0 9 Try.underlying9
  · refine run_convert_bytes_back (P := Try.prog) w 31 9 5 ⟨g, 0, none⟩ cap l Try.underlying31 Try.underlying5 Try.underlying9 ?_
    intro j hj
    exact h.cells rfl j _ (by simp [byteV, List.getElem?_eq_getElem hj])

theorem grown_row {w wr w1 w5 : World} {v : Value} {n : Nat} {L : List Value} (hown : wr.ownsRow w.heap.size 5 1 v n L) (h : w.grownBy w1 none) (hg : w1.grownBy w5 v.ownBlock) : w.grownBy w5 none := by
  refine ⟨hg.os.trans h.os, hg.tape.trans h.tape, hg.output.trans h.output, Nat.le_trans h.size hg.size, ?_⟩
  intro i hi hn
  rw [hg.block i (by have := h.size; omega) (by intro e; have := (hown.lt i e.symm).1; omega), h.block i hi hn]
theorem hex_row (l : List UInt8) (b : UInt8) (x y : Int) (hx : x.toNat = b.toNat / 16) (hy : y.toNat = b.toNat % 16) :
    byteV (hexL l) ++ [.int .u8 ((digB x.toNat : Nat) : Int), .int .u8 ((digB y.toNat : Nat) : Int)] = byteV (hexL (l ++ [b])) := by
  have hb := b.toNat_lt
  have h1 := digB_lt (n := b.toNat / 16) (by omega)
  have h2 := digB_lt (n := b.toNat % 16) (by omega)
  rw [hexL_snoc, hx, hy]
  simp only [byteV, List.map_append, hexB, List.map_cons, List.map_nil, UInt8.toNat_ofNat']
  rw [Nat.mod_eq_of_lt (show digB (b.toNat / 16) < 2 ^ 8 by omega), Nat.mod_eq_of_lt (show digB (b.toNat % 16) < 2 ^ 8 by omega)]

set_option maxHeartbeats 400000 in
theorem hex_any (s : ByteArray) (w : World) (hs : s.size ≤ 6000) :
    Calls Try.prog 15 #[.string s] w fun e w' => e = .returned (.string ⟨(hexL s.data.toList).toArray⟩) ∧ w.grownBy w' none := by
  obtain ⟨i5, hi5, hz5, hs5, hb5⟩ := info_parts Try.info5
  go_enter Try.func15, Try.ntmps15
  go_wp2_with (at_make; refine wpList_make_own _ rfl _ _ 31 rfl w.heap.size 5 i5 (.int .u8 0) 1 Try.underlying31 hi5 hz5 hs5 _ _ _ (2 * s.size) rfl rfl (by omega) (by rw [hb5]; omega) (by unfold maxLen; omega) (Nat.le_refl _) ?_)
  intro w0 hown0 hg0
  go_wp2_with fail
  go_loopw [3, 4, 11] (fun v _ i wr => ∃ (k : Nat) (v' : Value), k ≤ s.size ∧ i = .int .i64 k ∧ v' = v ∧ wr.ownsRow w.heap.size 5 1 v' (2 * k) (byteV (hexL (s.data.toList.take k))) ∧ w.grownBy wr none) (fun _ _ i _ => s.size - (intOf i).toNat)
  case atStart => exact ⟨0, _, by omega, rfl, rfl, hown0, hg0⟩
  case round =>
    obtain ⟨k, v, hk, rfl, rfl, hown, hg⟩ := hrel
    by_cases hlt : k < s.size
    · have hb := s[k].toNat_lt
      have HI := Lib.hid (hi_nib s[k].toNat hb)
      have LO := Lib.hid (lo_nib s[k].toNat)
      have q0 : (0 : Int) ≤ (k : Int) := by omega
      have q1 : (k : Int) < (s.size : Int) := by omega
      go_wp2_with fail
      obtain ⟨L, hL⟩ : ∃ L, L = byteV (hexL (s.data.toList.take k)) := ⟨_, rfl⟩
      rw [← hL] at hown
      have HL := Lib.hid hL
      clear hL
      have KP : ∀ n, (wr.drewN n).ownsRow w.heap.size 5 1 v (2 * k) L ∧ w.grownBy (wr.drewN n) none := fun n => ⟨hown, ⟨hg.os, hg.tape, hg.output, hg.size, hg.block⟩⟩
      go_region_held3 (fun _ => True) (exact trivial)
        (first | (go_at_call 28; refine (digit_int _ ?_ ?_ _).mono ?_; (first | exact HI.out.1 | exact LO.out.1); (first | exact HI.out.2.1 | exact LO.out.2.1); rintro e w3 ⟨rfl, m, rfl⟩) | (refine step_append_lies _ rfl (.tmp 14) (.tmp 25) 31 rfl w.heap.size 5 i5 (.int .u8 0) 1 1 Try.underlying31 hi5 hz5 hs5 hb5 rfl (by decide) v (2 * k) L rfl ((KP _).1.alloc _) _ 2 2 [_, _] rfl rfl (World.news_of_block (heap_alloc_new _ _)) (by intro u hu; simp at hu; rcases hu with rfl | rfl <;> rfl) (by decide) (by unfold maxLen; omega) (by omega) (Nat.le_trans hg.size (by simp [World.alloc])) _ rfl ?_; intro g cap w5 hown5 hg5 _ _))
      all_goals
        have HG := Lib.hid (grown_row hown (grown_alloc (KP _).2 _) hg5)
        have HO := Lib.hid hown5
        clear hown5 hg5 KP
        go_wp2_with fail
        refine ⟨⟨k + 1, _, by omega, rfl, rfl, ?_, HG.out⟩, by simp only [intOf]; omega⟩
        have HT : ((s[k].toNat : Int).tmod 16).toNat = s[k].toNat % 16 := by rw [Int.tmod_eq_emod_of_nonneg (by omega)]; exact LO.out.2.2
        rw [take_snoc s k hlt, ← hex_row _ s[k] _ _ HI.out.2.2 HT, ← HL.out]
        exact HO.out
    · have hk' : k = s.size := by omega
      subst hk'
      have hconv := conv_own hown (by rw [hexL_length, List.length_take]; simp)
      go_wp2_with fail
      go_ret
      rw [List.take_of_length_le (by simp)]
      exact ⟨rfl, hg⟩
end Go.Proofs.Ytlcimiboalpdkaa

/- The walk over the reference's Print. -/
import Derived.Test.YtlcimiboalpdkaaBy
import Derived.Test.YtlcimiboalpdkaaShb
import Derived.Test.YtlcimiboalpdkaaPost
namespace Go.Proofs.Ytlcimiboalpdkaa
open Go.RowKit

theorem sq8_lt : Lt32 sq8 := Lt32.of_mem (by decide +kernel)
theorem kList_lt : Lt32 kList := Lt32.of_mem (by decide +kernel)
/-- By, of the known numbers or of others like them. -/
theorem by_known (s : ByteArray) (w : World) (hs : s.size ≤ 6000) (g1 c1 g2 c2 : Nat) (r1 : U64At w g1 sq8) (r2 : U64At w g2 kList) :
    Calls Try.prog 12 #[.string s, .slice (some ⟨g1, 0, none⟩) 8 c1, .slice (some ⟨g2, 0, none⟩) 64 c2] w fun e w' => e = .returned (.string (printed s)) ∧ w.grownBy w' none := by
  rw [printed_ref s hs]
  have hn := nBlk_pos s.size hs
  exact by_any s w hs g1 c1 g2 c2 (nBlk s.size) sq8 kList _ rfl (by unfold kList; rw [List.length_map, List.length_range]) sq8_lt kList_lt r1 r2 rfl (wordsL_length s.data.toList) hn.1 hn.2 (wordsL_lt s hs)

theorem refPrint_any (s : ByteArray) (w : World) (hs : s.size ≤ 6000) :
    Calls Try.prog 10 #[.string s] w fun e w' => e = .returned (.string (printed s)) ∧ w.grownBy w' none := by
  go_enter Try.func10, Try.ntmps10
  go_wp2_with fail
  refine (squares_any w).mono ?_
  rintro e w1 ⟨v1, rfl, hown1, hg1⟩
  obtain ⟨g1, c1, rfl, hgb1, -, -, -, u1⟩ := own_open hown1 (by decide)
  have U1 := Lib.hid u1
  clear hown1 u1
  go_wp2_with fail
  refine (cubes_ref_any w1).mono ?_
  rintro e w2 ⟨v2, rfl, hown2, hg2⟩
  obtain ⟨g2, c2, rfl, hgb2, -, -, -, u2⟩ := own_open hown2 (by unfold kList; rw [List.length_map, List.length_range]; decide)
  have U2 := Lib.hid u2
  have U12 := Lib.hid (U1.out.grown hg2 (by simp))
  have hkl : kList.length = 64 := by unfold kList; rw [List.length_map, List.length_range]
  rw [hkl]
  clear hown2 u2 hkl
  go_wp2_with fail
  refine (by_known s w2 hs g1 c1 g2 c2 U12.out U2.out).mono ?_
  rintro e w3 ⟨rfl, hg3⟩
  go_wp2_with fail
  go_ret
  exact ⟨rfl, (hg1.trans hg2).trans hg3⟩
end Go.Proofs.Ytlcimiboalpdkaa

/-
  No cell of these rows narrows 'for every input' (looked for: loops, veiled, ifaces, maps, wideKeys, modest, calm, conditions, laid).
  DERIVED. THE GIVEN ROWS OF THIS SEAT. 9 by the template 'for every input the law returns true; each argument reads behind the call as it read before'; 0 by the template 'total and deterministic' (their statements: YtackgamdjeidmaaTotals.lean).
  GIVEN WITH THE SEED: the statements are not yours to turn. If you find one false, say at which input.
  Laid BY PROGRAM, IN A SANDBOX (cutbox-rows.mjs): the forced cells as the released guide's own fill.sh prints them over the translation 679f40d8f981507d… (all of the seat's roots in one cut). By AI agents, Wed Nov 11 2026. No macro, syntax, notation, axiom, sorry.
-/
import Derived.Test.YtackgamdjeidmaaChecked
import GoSem.Claim
import GoSem.ClaimJoined
import GoSem.ClaimMapViews
import Derived.JoinedTies
import Derived.KernelRfl
namespace Go.Proofs.Ytackgamdjeidmaa
/- THE CELL 'sum', in the pinned program and in every row, IS THE sha256 OF THE DUMP (.gsa) THAT YtackgamdjeidmaaProg.lean LOADS. Nothing in Lean hashes anything: it is a label: what it is worth is what the hold of that sum in a sandbox is worth. -/
noncomputable def Try.pinned : Pinned := { name := "ytackgamdjeidmaa", sum := "679f40d8f981507d0405906348c352932d2e999da7abcb74a446d087ed5098af", checked := Try.checked }
namespace Rows
def none {H : Type} : Left H := { results := [], args := [] }

/-- 'cooperagelaw02.TurnSums': WHATEVER THE INPUT: true; the input reads as it did. -/
def turnSumsSpec : ChangeSpec := { name := "turnSums", fn := fun _ => fun
  | [d1, d2] => { results := [.lit (.bool true)], args := [d1, d2] }
  | _ => none }
def turnSumsRow : OpenClaim := { program := "ytackgamdjeidmaa", sum := "679f40d8f981507d0405906348c352932d2e999da7abcb74a446d087ed5098af", func := "cooperage/cooperagelaw02.TurnSums", spec := "turnSums", apart := false }
def TurnSumsSaid : Prop := turnSumsRow.holds Try.pinned (OpenSpec.ofChange turnSumsSpec)

/-- ITS FALSE NEIGHBOUR: 'it returns false'. Refute it at one input. -/
def turnSumsWrong : ChangeSpec := { name := "turnSums", fn := fun _ => fun
  | [d1, d2] => { results := [.lit (.bool false)], args := [d1, d2] }
  | _ => none }
def TurnSumsWrongFalsely : Prop := turnSumsRow.holds Try.pinned (OpenSpec.ofChange turnSumsWrong)

/-- 'cooperagelaw02.TurnCells': WHATEVER THE INPUT: true; the input reads as it did. -/
def turnCellsSpec : ChangeSpec := { name := "turnCells", fn := fun _ => fun
  | [d1, d2] => { results := [.lit (.bool true)], args := [d1, d2] }
  | _ => none }
def turnCellsRow : OpenClaim := { program := "ytackgamdjeidmaa", sum := "679f40d8f981507d0405906348c352932d2e999da7abcb74a446d087ed5098af", func := "cooperage/cooperagelaw02.TurnCells", spec := "turnCells", apart := false }
def TurnCellsSaid : Prop := turnCellsRow.holds Try.pinned (OpenSpec.ofChange turnCellsSpec)

/-- ITS FALSE NEIGHBOUR: 'it returns false'. Refute it at one input. -/
def turnCellsWrong : ChangeSpec := { name := "turnCells", fn := fun _ => fun
  | [d1, d2] => { results := [.lit (.bool false)], args := [d1, d2] }
  | _ => none }
def TurnCellsWrongFalsely : Prop := turnCellsRow.holds Try.pinned (OpenSpec.ofChange turnCellsWrong)

/-- 'cooperagelaw02.TurnFour': WHATEVER THE INPUT: true; the input reads as it did. -/
def turnFourSpec : ChangeSpec := { name := "turnFour", fn := fun _ => fun
  | [d1, d2] => { results := [.lit (.bool true)], args := [d1, d2] }
  | _ => none }
def turnFourRow : OpenClaim := { program := "ytackgamdjeidmaa", sum := "679f40d8f981507d0405906348c352932d2e999da7abcb74a446d087ed5098af", func := "cooperage/cooperagelaw02.TurnFour", spec := "turnFour", apart := false }
def TurnFourSaid : Prop := turnFourRow.holds Try.pinned (OpenSpec.ofChange turnFourSpec)

/-- ITS FALSE NEIGHBOUR: 'it returns false'. Refute it at one input. -/
def turnFourWrong : ChangeSpec := { name := "turnFour", fn := fun _ => fun
  | [d1, d2] => { results := [.lit (.bool false)], args := [d1, d2] }
  | _ => none }
def TurnFourWrongFalsely : Prop := turnFourRow.holds Try.pinned (OpenSpec.ofChange turnFourWrong)

/-- 'cooperagelaw02.TurnJoins': WHATEVER THE INPUT: true; the input reads as it did. -/
def turnJoinsSpec : ChangeSpec := { name := "turnJoins", fn := fun _ => fun
  | [d1, d2] => { results := [.lit (.bool true)], args := [d1, d2] }
  | _ => none }
def turnJoinsRow : OpenClaim := { program := "ytackgamdjeidmaa", sum := "679f40d8f981507d0405906348c352932d2e999da7abcb74a446d087ed5098af", func := "cooperage/cooperagelaw02.TurnJoins", spec := "turnJoins", apart := false }
def TurnJoinsSaid : Prop := turnJoinsRow.holds Try.pinned (OpenSpec.ofChange turnJoinsSpec)

/-- ITS FALSE NEIGHBOUR: 'it returns false'. Refute it at one input. -/
def turnJoinsWrong : ChangeSpec := { name := "turnJoins", fn := fun _ => fun
  | [d1, d2] => { results := [.lit (.bool false)], args := [d1, d2] }
  | _ => none }
def TurnJoinsWrongFalsely : Prop := turnJoinsRow.holds Try.pinned (OpenSpec.ofChange turnJoinsWrong)

/-- 'cooperagelaw02.TurnRolls': WHATEVER THE INPUT: true; the input reads as it did. -/
def turnRollsSpec : ChangeSpec := { name := "turnRolls", fn := fun _ => fun
  | [d1, d2] => { results := [.lit (.bool true)], args := [d1, d2] }
  | _ => none }
def turnRollsRow : OpenClaim := { program := "ytackgamdjeidmaa", sum := "679f40d8f981507d0405906348c352932d2e999da7abcb74a446d087ed5098af", func := "cooperage/cooperagelaw02.TurnRolls", spec := "turnRolls", apart := false }
def TurnRollsSaid : Prop := turnRollsRow.holds Try.pinned (OpenSpec.ofChange turnRollsSpec)

/-- ITS FALSE NEIGHBOUR: 'it returns false'. Refute it at one input. -/
def turnRollsWrong : ChangeSpec := { name := "turnRolls", fn := fun _ => fun
  | [d1, d2] => { results := [.lit (.bool false)], args := [d1, d2] }
  | _ => none }
def TurnRollsWrongFalsely : Prop := turnRollsRow.holds Try.pinned (OpenSpec.ofChange turnRollsWrong)

/-- 'cooperagelaw03.CutCuts': WHATEVER THE INPUT: true; the input reads as it did. -/
def cutCutsSpec : ChangeSpec := { name := "cutCuts", fn := fun _ => fun
  | [d] => { results := [.lit (.bool true)], args := [d] }
  | _ => none }
def cutCutsRow : OpenClaim := { program := "ytackgamdjeidmaa", sum := "679f40d8f981507d0405906348c352932d2e999da7abcb74a446d087ed5098af", func := "cooperage/cooperagelaw03.CutCuts", spec := "cutCuts", apart := false }
def CutCutsSaid : Prop := cutCutsRow.holds Try.pinned (OpenSpec.ofChange cutCutsSpec)

/-- ITS FALSE NEIGHBOUR: 'it returns false'. Refute it at one input. -/
def cutCutsWrong : ChangeSpec := { name := "cutCuts", fn := fun _ => fun
  | [d] => { results := [.lit (.bool false)], args := [d] }
  | _ => none }
def CutCutsWrongFalsely : Prop := cutCutsRow.holds Try.pinned (OpenSpec.ofChange cutCutsWrong)

/-- 'cooperagelaw03.CutFeeds': WHATEVER THE INPUT: true; the input reads as it did. -/
def cutFeedsSpec : ChangeSpec := { name := "cutFeeds", fn := fun _ => fun
  | [d] => { results := [.lit (.bool true)], args := [d] }
  | _ => none }
def cutFeedsRow : OpenClaim := { program := "ytackgamdjeidmaa", sum := "679f40d8f981507d0405906348c352932d2e999da7abcb74a446d087ed5098af", func := "cooperage/cooperagelaw03.CutFeeds", spec := "cutFeeds", apart := false }
def CutFeedsSaid : Prop := cutFeedsRow.holds Try.pinned (OpenSpec.ofChange cutFeedsSpec)

/-- ITS FALSE NEIGHBOUR: 'it returns false'. Refute it at one input. -/
def cutFeedsWrong : ChangeSpec := { name := "cutFeeds", fn := fun _ => fun
  | [d] => { results := [.lit (.bool false)], args := [d] }
  | _ => none }
def CutFeedsWrongFalsely : Prop := cutFeedsRow.holds Try.pinned (OpenSpec.ofChange cutFeedsWrong)

/-- 'cooperagelaw03.CutWhole': WHATEVER THE INPUT: true; the input reads as it did. -/
def cutWholeSpec : ChangeSpec := { name := "cutWhole", fn := fun _ => fun
  | [d] => { results := [.lit (.bool true)], args := [d] }
  | _ => none }
def cutWholeRow : OpenClaim := { program := "ytackgamdjeidmaa", sum := "679f40d8f981507d0405906348c352932d2e999da7abcb74a446d087ed5098af", func := "cooperage/cooperagelaw03.CutWhole", spec := "cutWhole", apart := false }
def CutWholeSaid : Prop := cutWholeRow.holds Try.pinned (OpenSpec.ofChange cutWholeSpec)

/-- ITS FALSE NEIGHBOUR: 'it returns false'. Refute it at one input. -/
def cutWholeWrong : ChangeSpec := { name := "cutWhole", fn := fun _ => fun
  | [d] => { results := [.lit (.bool false)], args := [d] }
  | _ => none }
def CutWholeWrongFalsely : Prop := cutWholeRow.holds Try.pinned (OpenSpec.ofChange cutWholeWrong)

/-- 'cooperagelaw03.CutBehind': WHATEVER THE INPUT: true; the input reads as it did. -/
def cutBehindSpec : ChangeSpec := { name := "cutBehind", fn := fun _ => fun
  | [d1, d2] => { results := [.lit (.bool true)], args := [d1, d2] }
  | _ => none }
def cutBehindRow : OpenClaim := { program := "ytackgamdjeidmaa", sum := "679f40d8f981507d0405906348c352932d2e999da7abcb74a446d087ed5098af", func := "cooperage/cooperagelaw03.CutBehind", spec := "cutBehind", apart := false }
def CutBehindSaid : Prop := cutBehindRow.holds Try.pinned (OpenSpec.ofChange cutBehindSpec)

/-- ITS FALSE NEIGHBOUR: 'it returns false'. Refute it at one input. -/
def cutBehindWrong : ChangeSpec := { name := "cutBehind", fn := fun _ => fun
  | [d1, d2] => { results := [.lit (.bool false)], args := [d1, d2] }
  | _ => none }
def CutBehindWrongFalsely : Prop := cutBehindRow.holds Try.pinned (OpenSpec.ofChange cutBehindWrong)

/- THE SECOND FORM. 'bulk': how many values and letters a reading holds, each counted each time it is reached (what is shared counts as often as it is met; a slice's spare places count too). A statement '..UptoSaid' is the law's where the arguments, and the package variables that the reading takes, are together of bulk at most 1048576: NARROWER than '..Said'. Prove '..Said' where nothing that the law and all that it calls make is longer than what came in: it says more and counts as full. Else prove '..UptoSaid'. A law counts once. -/
mutual
def uptoBulk {H : Type} : DataW H → Nat
  | .lit (.string bytes) => bytes.length + 1
  | .lit _ => 1
  | .nil => 1
  | .ptr d => uptoBulk d + 1
  | .slice elems spare => uptoBulkAll elems + uptoBulkAll spare + 1
  | .agg parts => uptoBulkAll parts + 1
  | .iface _ d => uptoBulk d + 1
  | .map entries => uptoBulkEntries entries + 1
  | .held _ => 1
def uptoBulkAll {H : Type} : List (DataW H) → Nat
  | [] => 0
  | d :: r => uptoBulk d + uptoBulkAll r
def uptoBulkEntries {H : Type} : List (Lit × DataW H) → Nat
  | [] => 0
  | x :: r => uptoBulkEntry x + uptoBulkEntries r
def uptoBulkEntry {H : Type} : Lit × DataW H → Nat
  | (.string bytes, d) => bytes.length + uptoBulk d + 1
  | (_, d) => uptoBulk d + 1
 end
def uptoSmall : (H : Type) → List (DataW H) → Bool := fun _ ds => decide (uptoBulkAll ds ≤ 1048576)
def OpenSpec.upto (s : _root_.Go.ChangeSpec) : _root_.Go.OpenSpec := { _root_.Go.OpenSpec.ofChange s with cond := some uptoSmall }

/-- 'cooperagelaw02.TurnSums', WHERE WHAT IT READS IS OF BULK AT MOST 1048576: true; the input reads as it did. -/
def turnSumsUptoRow : OpenClaim := { program := "ytackgamdjeidmaa", sum := "679f40d8f981507d0405906348c352932d2e999da7abcb74a446d087ed5098af", func := "cooperage/cooperagelaw02.TurnSums", spec := "turnSums", apart := false, narrowed := true }
def TurnSumsUptoSaid : Prop := turnSumsUptoRow.holds Try.pinned (OpenSpec.upto turnSumsSpec)

/-- 'cooperagelaw02.TurnCells', WHERE WHAT IT READS IS OF BULK AT MOST 1048576: true; the input reads as it did. -/
def turnCellsUptoRow : OpenClaim := { program := "ytackgamdjeidmaa", sum := "679f40d8f981507d0405906348c352932d2e999da7abcb74a446d087ed5098af", func := "cooperage/cooperagelaw02.TurnCells", spec := "turnCells", apart := false, narrowed := true }
def TurnCellsUptoSaid : Prop := turnCellsUptoRow.holds Try.pinned (OpenSpec.upto turnCellsSpec)

/-- 'cooperagelaw02.TurnFour', WHERE WHAT IT READS IS OF BULK AT MOST 1048576: true; the input reads as it did. -/
def turnFourUptoRow : OpenClaim := { program := "ytackgamdjeidmaa", sum := "679f40d8f981507d0405906348c352932d2e999da7abcb74a446d087ed5098af", func := "cooperage/cooperagelaw02.TurnFour", spec := "turnFour", apart := false, narrowed := true }
def TurnFourUptoSaid : Prop := turnFourUptoRow.holds Try.pinned (OpenSpec.upto turnFourSpec)

/-- 'cooperagelaw02.TurnJoins', WHERE WHAT IT READS IS OF BULK AT MOST 1048576: true; the input reads as it did. -/
def turnJoinsUptoRow : OpenClaim := { program := "ytackgamdjeidmaa", sum := "679f40d8f981507d0405906348c352932d2e999da7abcb74a446d087ed5098af", func := "cooperage/cooperagelaw02.TurnJoins", spec := "turnJoins", apart := false, narrowed := true }
def TurnJoinsUptoSaid : Prop := turnJoinsUptoRow.holds Try.pinned (OpenSpec.upto turnJoinsSpec)

/-- 'cooperagelaw02.TurnRolls', WHERE WHAT IT READS IS OF BULK AT MOST 1048576: true; the input reads as it did. -/
def turnRollsUptoRow : OpenClaim := { program := "ytackgamdjeidmaa", sum := "679f40d8f981507d0405906348c352932d2e999da7abcb74a446d087ed5098af", func := "cooperage/cooperagelaw02.TurnRolls", spec := "turnRolls", apart := false, narrowed := true }
def TurnRollsUptoSaid : Prop := turnRollsUptoRow.holds Try.pinned (OpenSpec.upto turnRollsSpec)

/-- 'cooperagelaw03.CutCuts', WHERE WHAT IT READS IS OF BULK AT MOST 1048576: true; the input reads as it did. -/
def cutCutsUptoRow : OpenClaim := { program := "ytackgamdjeidmaa", sum := "679f40d8f981507d0405906348c352932d2e999da7abcb74a446d087ed5098af", func := "cooperage/cooperagelaw03.CutCuts", spec := "cutCuts", apart := false, narrowed := true }
def CutCutsUptoSaid : Prop := cutCutsUptoRow.holds Try.pinned (OpenSpec.upto cutCutsSpec)

/-- 'cooperagelaw03.CutFeeds', WHERE WHAT IT READS IS OF BULK AT MOST 1048576: true; the input reads as it did. -/
def cutFeedsUptoRow : OpenClaim := { program := "ytackgamdjeidmaa", sum := "679f40d8f981507d0405906348c352932d2e999da7abcb74a446d087ed5098af", func := "cooperage/cooperagelaw03.CutFeeds", spec := "cutFeeds", apart := false, narrowed := true }
def CutFeedsUptoSaid : Prop := cutFeedsUptoRow.holds Try.pinned (OpenSpec.upto cutFeedsSpec)

/-- 'cooperagelaw03.CutWhole', WHERE WHAT IT READS IS OF BULK AT MOST 1048576: true; the input reads as it did. -/
def cutWholeUptoRow : OpenClaim := { program := "ytackgamdjeidmaa", sum := "679f40d8f981507d0405906348c352932d2e999da7abcb74a446d087ed5098af", func := "cooperage/cooperagelaw03.CutWhole", spec := "cutWhole", apart := false, narrowed := true }
def CutWholeUptoSaid : Prop := cutWholeUptoRow.holds Try.pinned (OpenSpec.upto cutWholeSpec)

/-- 'cooperagelaw03.CutBehind', WHERE WHAT IT READS IS OF BULK AT MOST 1048576: true; the input reads as it did. -/
def cutBehindUptoRow : OpenClaim := { program := "ytackgamdjeidmaa", sum := "679f40d8f981507d0405906348c352932d2e999da7abcb74a446d087ed5098af", func := "cooperage/cooperagelaw03.CutBehind", spec := "cutBehind", apart := false, narrowed := true }
def CutBehindUptoSaid : Prop := cutBehindUptoRow.holds Try.pinned (OpenSpec.upto cutBehindSpec)

end Rows
end Go.Proofs.Ytackgamdjeidmaa

/-
  No cell of these rows narrows 'for every input' (looked for: loops, veiled, ifaces, maps, wideKeys, modest, calm, conditions, laid).
  DERIVED. THE GIVEN ROWS OF THIS SEAT. 5 by the template 'for every input the law returns true; each argument reads behind the call as it read before'; 0 by the template 'total and deterministic' (their statements: YtlcimiboalpdkaaTotals.lean).
  GIVEN WITH THE SEED: the statements are not yours to turn. If you find one false, say at which input.
  Laid BY PROGRAM, IN A SANDBOX (cutbox-rows.mjs): the forced cells as the released guide's own fill.sh prints them over the translation 022517aad6bf79bf… (all of the seat's roots in one cut). By AI agents, Wed Nov 11 2026. No macro, syntax, notation, axiom, sorry.
-/
import Derived.Test.YtlcimiboalpdkaaChecked
import GoSem.Claim
import GoSem.ClaimJoined
import GoSem.ClaimMapViews
import Derived.JoinedTies
import Derived.KernelRfl
namespace Go.Proofs.Ytlcimiboalpdkaa
/- THE CELL 'sum', in the pinned program and in every row, IS THE sha256 OF THE DUMP (.gsa) THAT YtlcimiboalpdkaaProg.lean LOADS. Nothing in Lean hashes anything: it is a label: what it is worth is what the hold of that sum in a sandbox is worth. -/
noncomputable def Try.pinned : Pinned := { name := "ytlcimiboalpdkaa", sum := "022517aad6bf79bf0407e84930cdbf0fbb682714753df3fc50e6adc08536cba8", checked := Try.checked }
namespace Rows
def none {H : Type} : Left H := { results := [], args := [] }

/-- 'cooperagelaw01.SumsPrints': WHATEVER THE INPUT: true; the input reads as it did. -/
def sumsPrintsSpec : ChangeSpec := { name := "sumsPrints", fn := fun _ => fun
  | [d] => { results := [.lit (.bool true)], args := [d] }
  | _ => none }
def sumsPrintsRow : OpenClaim := { program := "ytlcimiboalpdkaa", sum := "022517aad6bf79bf0407e84930cdbf0fbb682714753df3fc50e6adc08536cba8", func := "cooperage/cooperagelaw01.SumsPrints", spec := "sumsPrints", apart := false }
def SumsPrintsSaid : Prop := sumsPrintsRow.holds Try.pinned (OpenSpec.ofChange sumsPrintsSpec)

/-- ITS FALSE NEIGHBOUR: 'it returns false'. Refute it at one input. -/
def sumsPrintsWrong : ChangeSpec := { name := "sumsPrints", fn := fun _ => fun
  | [d] => { results := [.lit (.bool false)], args := [d] }
  | _ => none }
def SumsPrintsWrongFalsely : Prop := sumsPrintsRow.holds Try.pinned (OpenSpec.ofChange sumsPrintsWrong)

/-- 'cooperagelaw01.SumsRoots': WHATEVER THE INPUT: true; the input reads as it did. -/
def sumsRootsSpec : ChangeSpec := { name := "sumsRoots", fn := fun _ => fun
  | [d] => { results := [.lit (.bool true)], args := [d] }
  | _ => none }
def sumsRootsRow : OpenClaim := { program := "ytlcimiboalpdkaa", sum := "022517aad6bf79bf0407e84930cdbf0fbb682714753df3fc50e6adc08536cba8", func := "cooperage/cooperagelaw01.SumsRoots", spec := "sumsRoots", apart := false }
def SumsRootsSaid : Prop := sumsRootsRow.holds Try.pinned (OpenSpec.ofChange sumsRootsSpec)

/-- ITS FALSE NEIGHBOUR: 'it returns false'. Refute it at one input. -/
def sumsRootsWrong : ChangeSpec := { name := "sumsRoots", fn := fun _ => fun
  | [d] => { results := [.lit (.bool false)], args := [d] }
  | _ => none }
def SumsRootsWrongFalsely : Prop := sumsRootsRow.holds Try.pinned (OpenSpec.ofChange sumsRootsWrong)

/-- 'cooperagelaw01.SumsChecks': WHATEVER THE INPUT: true; the input reads as it did. -/
def sumsChecksSpec : ChangeSpec := { name := "sumsChecks", fn := fun _ => fun
  | [d] => { results := [.lit (.bool true)], args := [d] }
  | _ => none }
def sumsChecksRow : OpenClaim := { program := "ytlcimiboalpdkaa", sum := "022517aad6bf79bf0407e84930cdbf0fbb682714753df3fc50e6adc08536cba8", func := "cooperage/cooperagelaw01.SumsChecks", spec := "sumsChecks", apart := false }
def SumsChecksSaid : Prop := sumsChecksRow.holds Try.pinned (OpenSpec.ofChange sumsChecksSpec)

/-- ITS FALSE NEIGHBOUR: 'it returns false'. Refute it at one input. -/
def sumsChecksWrong : ChangeSpec := { name := "sumsChecks", fn := fun _ => fun
  | [d] => { results := [.lit (.bool false)], args := [d] }
  | _ => none }
def SumsChecksWrongFalsely : Prop := sumsChecksRow.holds Try.pinned (OpenSpec.ofChange sumsChecksWrong)

/-- 'cooperagelaw01.SumsUnlike': WHATEVER THE INPUT: true; the input reads as it did. -/
def sumsUnlikeSpec : ChangeSpec := { name := "sumsUnlike", fn := fun _ => fun
  | [d1, d2, d3] => { results := [.lit (.bool true)], args := [d1, d2, d3] }
  | _ => none }
def sumsUnlikeRow : OpenClaim := { program := "ytlcimiboalpdkaa", sum := "022517aad6bf79bf0407e84930cdbf0fbb682714753df3fc50e6adc08536cba8", func := "cooperage/cooperagelaw01.SumsUnlike", spec := "sumsUnlike", apart := false }
def SumsUnlikeSaid : Prop := sumsUnlikeRow.holds Try.pinned (OpenSpec.ofChange sumsUnlikeSpec)

/-- ITS FALSE NEIGHBOUR: 'it returns false'. Refute it at one input. -/
def sumsUnlikeWrong : ChangeSpec := { name := "sumsUnlike", fn := fun _ => fun
  | [d1, d2, d3] => { results := [.lit (.bool false)], args := [d1, d2, d3] }
  | _ => none }
def SumsUnlikeWrongFalsely : Prop := sumsUnlikeRow.holds Try.pinned (OpenSpec.ofChange sumsUnlikeWrong)

/-- 'cooperagelaw01.SumsDigits': WHATEVER THE INPUT: true; the input reads as it did. -/
def sumsDigitsSpec : ChangeSpec := { name := "sumsDigits", fn := fun _ => fun
  | [d] => { results := [.lit (.bool true)], args := [d] }
  | _ => none }
def sumsDigitsRow : OpenClaim := { program := "ytlcimiboalpdkaa", sum := "022517aad6bf79bf0407e84930cdbf0fbb682714753df3fc50e6adc08536cba8", func := "cooperage/cooperagelaw01.SumsDigits", spec := "sumsDigits", apart := false }
def SumsDigitsSaid : Prop := sumsDigitsRow.holds Try.pinned (OpenSpec.ofChange sumsDigitsSpec)

/-- ITS FALSE NEIGHBOUR: 'it returns false'. Refute it at one input. -/
def sumsDigitsWrong : ChangeSpec := { name := "sumsDigits", fn := fun _ => fun
  | [d] => { results := [.lit (.bool false)], args := [d] }
  | _ => none }
def SumsDigitsWrongFalsely : Prop := sumsDigitsRow.holds Try.pinned (OpenSpec.ofChange sumsDigitsWrong)

/- THE SECOND FORM. 'bulk': how many values and letters a reading holds, each counted each time it is reached (what is shared counts as often as it is met; a slice's spare places count too). A statement '..UptoSaid' is the law's where the arguments, and the package variables that the reading takes, are together of bulk at most 1048576: NARROWER than '..Said'. Prove '..Said' where nothing that the law and all that it calls make is longer than what came in: it says more and counts as full. Else prove '..UptoSaid'. A law counts once. -/
mutual
def uptoBulk {H : Type} : DataW H → Nat
  | .lit (.string bytes) => bytes.length + 1
  | .lit _ => 1
  | .nil => 1
  | .ptr d => uptoBulk d + 1
  | .slice elems spare => uptoBulkAll elems + uptoBulkAll spare + 1
  | .agg parts => uptoBulkAll parts + 1
  | .iface _ d => uptoBulk d + 1
  | .map entries => uptoBulkEntries entries + 1
  | .held _ => 1
def uptoBulkAll {H : Type} : List (DataW H) → Nat
  | [] => 0
  | d :: r => uptoBulk d + uptoBulkAll r
def uptoBulkEntries {H : Type} : List (Lit × DataW H) → Nat
  | [] => 0
  | x :: r => uptoBulkEntry x + uptoBulkEntries r
def uptoBulkEntry {H : Type} : Lit × DataW H → Nat
  | (.string bytes, d) => bytes.length + uptoBulk d + 1
  | (_, d) => uptoBulk d + 1
 end
def uptoSmall : (H : Type) → List (DataW H) → Bool := fun _ ds => decide (uptoBulkAll ds ≤ 1048576)
def OpenSpec.upto (s : _root_.Go.ChangeSpec) : _root_.Go.OpenSpec := { _root_.Go.OpenSpec.ofChange s with cond := some uptoSmall }

/-- 'cooperagelaw01.SumsPrints', WHERE WHAT IT READS IS OF BULK AT MOST 1048576: true; the input reads as it did. -/
def sumsPrintsUptoRow : OpenClaim := { program := "ytlcimiboalpdkaa", sum := "022517aad6bf79bf0407e84930cdbf0fbb682714753df3fc50e6adc08536cba8", func := "cooperage/cooperagelaw01.SumsPrints", spec := "sumsPrints", apart := false, narrowed := true }
def SumsPrintsUptoSaid : Prop := sumsPrintsUptoRow.holds Try.pinned (OpenSpec.upto sumsPrintsSpec)

/-- 'cooperagelaw01.SumsRoots', WHERE WHAT IT READS IS OF BULK AT MOST 1048576: true; the input reads as it did. -/
def sumsRootsUptoRow : OpenClaim := { program := "ytlcimiboalpdkaa", sum := "022517aad6bf79bf0407e84930cdbf0fbb682714753df3fc50e6adc08536cba8", func := "cooperage/cooperagelaw01.SumsRoots", spec := "sumsRoots", apart := false, narrowed := true }
def SumsRootsUptoSaid : Prop := sumsRootsUptoRow.holds Try.pinned (OpenSpec.upto sumsRootsSpec)

/-- 'cooperagelaw01.SumsChecks', WHERE WHAT IT READS IS OF BULK AT MOST 1048576: true; the input reads as it did. -/
def sumsChecksUptoRow : OpenClaim := { program := "ytlcimiboalpdkaa", sum := "022517aad6bf79bf0407e84930cdbf0fbb682714753df3fc50e6adc08536cba8", func := "cooperage/cooperagelaw01.SumsChecks", spec := "sumsChecks", apart := false, narrowed := true }
def SumsChecksUptoSaid : Prop := sumsChecksUptoRow.holds Try.pinned (OpenSpec.upto sumsChecksSpec)

/-- 'cooperagelaw01.SumsUnlike', WHERE WHAT IT READS IS OF BULK AT MOST 1048576: true; the input reads as it did. -/
def sumsUnlikeUptoRow : OpenClaim := { program := "ytlcimiboalpdkaa", sum := "022517aad6bf79bf0407e84930cdbf0fbb682714753df3fc50e6adc08536cba8", func := "cooperage/cooperagelaw01.SumsUnlike", spec := "sumsUnlike", apart := false, narrowed := true }
def SumsUnlikeUptoSaid : Prop := sumsUnlikeUptoRow.holds Try.pinned (OpenSpec.upto sumsUnlikeSpec)

/-- 'cooperagelaw01.SumsDigits', WHERE WHAT IT READS IS OF BULK AT MOST 1048576: true; the input reads as it did. -/
def sumsDigitsUptoRow : OpenClaim := { program := "ytlcimiboalpdkaa", sum := "022517aad6bf79bf0407e84930cdbf0fbb682714753df3fc50e6adc08536cba8", func := "cooperage/cooperagelaw01.SumsDigits", spec := "sumsDigits", apart := false, narrowed := true }
def SumsDigitsUptoSaid : Prop := sumsDigitsUptoRow.holds Try.pinned (OpenSpec.upto sumsDigitsSpec)

end Rows
end Go.Proofs.Ytlcimiboalpdkaa

/-
  No cell of these rows narrows 'for every input' (looked for: loops, veiled, ifaces, maps, wideKeys, modest, calm, conditions, laid).
  DERIVED. THE GIVEN ROWS OF THIS SEAT. 11 by the template 'for every input the law returns true; each argument reads behind the call as it read before'; 0 by the template 'total and deterministic' (their statements: YtjhkjekbadbgnaaTotals.lean).
  GIVEN WITH THE SEED: the statements are not yours to turn. If you find one false, say at which input.
  Laid BY PROGRAM, IN A SANDBOX (cutbox-rows.mjs): the forced cells as the released guide's own fill.sh prints them over the translation 8f6a76f566999643… (all of the seat's roots in one cut). By AI agents, Wed Nov 11 2026. No macro, syntax, notation, axiom, sorry.
-/
import Derived.Test.YtjhkjekbadbgnaaChecked
import GoSem.Claim
import GoSem.ClaimJoined
import GoSem.ClaimMapViews
import Derived.JoinedTies
import Derived.KernelRfl
namespace Go.Proofs.Ytjhkjekbadbgnaa
/- THE CELL 'sum', in the pinned program and in every row, IS THE sha256 OF THE DUMP (.gsa) THAT YtjhkjekbadbgnaaProg.lean LOADS. Nothing in Lean hashes anything: it is a label: what it is worth is what the hold of that sum in a sandbox is worth. -/
noncomputable def Try.pinned : Pinned := { name := "ytjhkjekbadbgnaa", sum := "8f6a76f566999643745ba0666e4e3dce3bd611e2ba7882960d23a1f2ef0c4f51", checked := Try.checked }
namespace Rows
def none {H : Type} : Left H := { results := [], args := [] }

/-- 'tenorlaw12.SolvePolys': WHATEVER THE INPUT: true; the input reads as it did. -/
def solvePolysSpec : ChangeSpec := { name := "solvePolys", fn := fun _ => fun
  | [d1, d2, d3] => { results := [.lit (.bool true)], args := [d1, d2, d3] }
  | _ => none }
def solvePolysRow : OpenClaim := { program := "ytjhkjekbadbgnaa", sum := "8f6a76f566999643745ba0666e4e3dce3bd611e2ba7882960d23a1f2ef0c4f51", func := "tenor/tenorlaw12.SolvePolys", spec := "solvePolys", inPlace := ["math.Float64bits", "math.Float64frombits"], unfollowed := true, recurses := true, apart := false }
def SolvePolysSaid : Prop := solvePolysRow.holds Try.pinned (OpenSpec.ofChange solvePolysSpec)

/-- ITS FALSE NEIGHBOUR: 'it returns false'. Refute it at one input. -/
def solvePolysWrong : ChangeSpec := { name := "solvePolys", fn := fun _ => fun
  | [d1, d2, d3] => { results := [.lit (.bool false)], args := [d1, d2, d3] }
  | _ => none }
def SolvePolysWrongFalsely : Prop := solvePolysRow.holds Try.pinned (OpenSpec.ofChange solvePolysWrong)

/-- 'tenorlaw12.SolveJumps': WHATEVER THE INPUT: true; the input reads as it did. -/
def solveJumpsSpec : ChangeSpec := { name := "solveJumps", fn := fun _ => fun
  | [d1, d2, d3, d4] => { results := [.lit (.bool true)], args := [d1, d2, d3, d4] }
  | _ => none }
def solveJumpsRow : OpenClaim := { program := "ytjhkjekbadbgnaa", sum := "8f6a76f566999643745ba0666e4e3dce3bd611e2ba7882960d23a1f2ef0c4f51", func := "tenor/tenorlaw12.SolveJumps", spec := "solveJumps", inPlace := ["math.Float64bits", "math.Float64frombits"], unfollowed := true, recurses := true, apart := false }
def SolveJumpsSaid : Prop := solveJumpsRow.holds Try.pinned (OpenSpec.ofChange solveJumpsSpec)

/-- ITS FALSE NEIGHBOUR: 'it returns false'. Refute it at one input. -/
def solveJumpsWrong : ChangeSpec := { name := "solveJumps", fn := fun _ => fun
  | [d1, d2, d3, d4] => { results := [.lit (.bool false)], args := [d1, d2, d3, d4] }
  | _ => none }
def SolveJumpsWrongFalsely : Prop := solveJumpsRow.holds Try.pinned (OpenSpec.ofChange solveJumpsWrong)

/-- 'tenorlaw12.SolveOdd': WHATEVER THE INPUT: true; the input reads as it did. -/
def solveOddSpec : ChangeSpec := { name := "solveOdd", fn := fun _ => fun
  | [d1, d2, d3] => { results := [.lit (.bool true)], args := [d1, d2, d3] }
  | _ => none }
def solveOddRow : OpenClaim := { program := "ytjhkjekbadbgnaa", sum := "8f6a76f566999643745ba0666e4e3dce3bd611e2ba7882960d23a1f2ef0c4f51", func := "tenor/tenorlaw12.SolveOdd", spec := "solveOdd", inPlace := ["math.Float64bits", "math.Float64frombits"], unfollowed := true, recurses := true, apart := false }
def SolveOddSaid : Prop := solveOddRow.holds Try.pinned (OpenSpec.ofChange solveOddSpec)

/-- ITS FALSE NEIGHBOUR: 'it returns false'. Refute it at one input. -/
def solveOddWrong : ChangeSpec := { name := "solveOdd", fn := fun _ => fun
  | [d1, d2, d3] => { results := [.lit (.bool false)], args := [d1, d2, d3] }
  | _ => none }
def SolveOddWrongFalsely : Prop := solveOddRow.holds Try.pinned (OpenSpec.ofChange solveOddWrong)

/-- 'tenorlaw12.SolveNil': WHATEVER THE INPUT: true; the input reads as it did. -/
def solveNilSpec : ChangeSpec := { name := "solveNil", fn := fun _ => fun
  | [d1, d2] => { results := [.lit (.bool true)], args := [d1, d2] }
  | _ => none }
def solveNilRow : OpenClaim := { program := "ytjhkjekbadbgnaa", sum := "8f6a76f566999643745ba0666e4e3dce3bd611e2ba7882960d23a1f2ef0c4f51", func := "tenor/tenorlaw12.SolveNil", spec := "solveNil", inPlace := ["math.Float64bits", "math.Float64frombits"], unfollowed := true, recurses := true, apart := false }
def SolveNilSaid : Prop := solveNilRow.holds Try.pinned (OpenSpec.ofChange solveNilSpec)

/-- ITS FALSE NEIGHBOUR: 'it returns false'. Refute it at one input. -/
def solveNilWrong : ChangeSpec := { name := "solveNil", fn := fun _ => fun
  | [d1, d2] => { results := [.lit (.bool false)], args := [d1, d2] }
  | _ => none }
def SolveNilWrongFalsely : Prop := solveNilRow.holds Try.pinned (OpenSpec.ofChange solveNilWrong)

/-- 'tenorlaw12.SolveBrackets': WHATEVER THE INPUT: true; the input reads as it did. -/
def solveBracketsSpec : ChangeSpec := { name := "solveBrackets", fn := fun _ => fun
  | [d1, d2, d3] => { results := [.lit (.bool true)], args := [d1, d2, d3] }
  | _ => none }
def solveBracketsRow : OpenClaim := { program := "ytjhkjekbadbgnaa", sum := "8f6a76f566999643745ba0666e4e3dce3bd611e2ba7882960d23a1f2ef0c4f51", func := "tenor/tenorlaw12.SolveBrackets", spec := "solveBrackets", inPlace := ["math.Float64bits", "math.Float64frombits"], unfollowed := true, recurses := true, apart := false }
def SolveBracketsSaid : Prop := solveBracketsRow.holds Try.pinned (OpenSpec.ofChange solveBracketsSpec)

/-- ITS FALSE NEIGHBOUR: 'it returns false'. Refute it at one input. -/
def solveBracketsWrong : ChangeSpec := { name := "solveBrackets", fn := fun _ => fun
  | [d1, d2, d3] => { results := [.lit (.bool false)], args := [d1, d2, d3] }
  | _ => none }
def SolveBracketsWrongFalsely : Prop := solveBracketsRow.holds Try.pinned (OpenSpec.ofChange solveBracketsWrong)

/-- 'tenorlaw4.FnExps': WHATEVER THE INPUT: true; the input reads as it did. -/
def fnExpsSpec : ChangeSpec := { name := "fnExps", fn := fun _ => fun
  | [d] => { results := [.lit (.bool true)], args := [d] }
  | _ => none }
def fnExpsRow : OpenClaim := { program := "ytjhkjekbadbgnaa", sum := "8f6a76f566999643745ba0666e4e3dce3bd611e2ba7882960d23a1f2ef0c4f51", func := "tenor/tenorlaw4.FnExps", spec := "fnExps", inPlace := ["math.Float64frombits", "math.archFloor", "math.Float64bits", "math.archTrunc"], recurses := true, apart := false }
def FnExpsSaid : Prop := fnExpsRow.holds Try.pinned (OpenSpec.ofChange fnExpsSpec)

/-- ITS FALSE NEIGHBOUR: 'it returns false'. Refute it at one input. -/
def fnExpsWrong : ChangeSpec := { name := "fnExps", fn := fun _ => fun
  | [d] => { results := [.lit (.bool false)], args := [d] }
  | _ => none }
def FnExpsWrongFalsely : Prop := fnExpsRow.holds Try.pinned (OpenSpec.ofChange fnExpsWrong)

/-- 'tenorlaw4.FnLns': WHATEVER THE INPUT: true; the input reads as it did. -/
def fnLnsSpec : ChangeSpec := { name := "fnLns", fn := fun _ => fun
  | [d] => { results := [.lit (.bool true)], args := [d] }
  | _ => none }
def fnLnsRow : OpenClaim := { program := "ytjhkjekbadbgnaa", sum := "8f6a76f566999643745ba0666e4e3dce3bd611e2ba7882960d23a1f2ef0c4f51", func := "tenor/tenorlaw4.FnLns", spec := "fnLns", inPlace := ["math.Float64frombits", "math.Float64bits", "math.archFloor", "math.archTrunc"], recurses := true, apart := false }
def FnLnsSaid : Prop := fnLnsRow.holds Try.pinned (OpenSpec.ofChange fnLnsSpec)

/-- ITS FALSE NEIGHBOUR: 'it returns false'. Refute it at one input. -/
def fnLnsWrong : ChangeSpec := { name := "fnLns", fn := fun _ => fun
  | [d] => { results := [.lit (.bool false)], args := [d] }
  | _ => none }
def FnLnsWrongFalsely : Prop := fnLnsRow.holds Try.pinned (OpenSpec.ofChange fnLnsWrong)

/-- 'tenorlaw4.FnPows': WHATEVER THE INPUT: true; the input reads as it did. -/
def fnPowsSpec : ChangeSpec := { name := "fnPows", fn := fun _ => fun
  | [d1, d2] => { results := [.lit (.bool true)], args := [d1, d2] }
  | _ => none }
def fnPowsRow : OpenClaim := { program := "ytjhkjekbadbgnaa", sum := "8f6a76f566999643745ba0666e4e3dce3bd611e2ba7882960d23a1f2ef0c4f51", func := "tenor/tenorlaw4.FnPows", spec := "fnPows", inPlace := ["math.Float64frombits", "math.Float64bits", "math.archFloor", "math.archTrunc"], recurses := true, apart := false }
def FnPowsSaid : Prop := fnPowsRow.holds Try.pinned (OpenSpec.ofChange fnPowsSpec)

/-- ITS FALSE NEIGHBOUR: 'it returns false'. Refute it at one input. -/
def fnPowsWrong : ChangeSpec := { name := "fnPows", fn := fun _ => fun
  | [d1, d2] => { results := [.lit (.bool false)], args := [d1, d2] }
  | _ => none }
def FnPowsWrongFalsely : Prop := fnPowsRow.holds Try.pinned (OpenSpec.ofChange fnPowsWrong)

/-- 'tenorlaw4.FnHorners': WHATEVER THE INPUT: true; the input reads as it did. -/
def fnHornersSpec : ChangeSpec := { name := "fnHorners", fn := fun _ => fun
  | [d1, d2] => { results := [.lit (.bool true)], args := [d1, d2] }
  | _ => none }
def fnHornersRow : OpenClaim := { program := "ytjhkjekbadbgnaa", sum := "8f6a76f566999643745ba0666e4e3dce3bd611e2ba7882960d23a1f2ef0c4f51", func := "tenor/tenorlaw4.FnHorners", spec := "fnHorners", inPlace := ["math.Float64frombits", "math.archFloor", "math.Float64bits", "math.archTrunc"], recurses := true, apart := false }
def FnHornersSaid : Prop := fnHornersRow.holds Try.pinned (OpenSpec.ofChange fnHornersSpec)

/-- ITS FALSE NEIGHBOUR: 'it returns false'. Refute it at one input. -/
def fnHornersWrong : ChangeSpec := { name := "fnHorners", fn := fun _ => fun
  | [d1, d2] => { results := [.lit (.bool false)], args := [d1, d2] }
  | _ => none }
def FnHornersWrongFalsely : Prop := fnHornersRow.holds Try.pinned (OpenSpec.ofChange fnHornersWrong)

/-- 'tenorlaw4.FnSpecial': WHATEVER THE INPUT: true; the input reads as it did. -/
def fnSpecialSpec : ChangeSpec := { name := "fnSpecial", fn := fun _ => fun
  | [d] => { results := [.lit (.bool true)], args := [d] }
  | _ => none }
def fnSpecialRow : OpenClaim := { program := "ytjhkjekbadbgnaa", sum := "8f6a76f566999643745ba0666e4e3dce3bd611e2ba7882960d23a1f2ef0c4f51", func := "tenor/tenorlaw4.FnSpecial", spec := "fnSpecial", inPlace := ["math.Float64frombits", "math.archFloor", "math.Float64bits", "math.archTrunc"], recurses := true, apart := false }
def FnSpecialSaid : Prop := fnSpecialRow.holds Try.pinned (OpenSpec.ofChange fnSpecialSpec)

/-- ITS FALSE NEIGHBOUR: 'it returns false'. Refute it at one input. -/
def fnSpecialWrong : ChangeSpec := { name := "fnSpecial", fn := fun _ => fun
  | [d] => { results := [.lit (.bool false)], args := [d] }
  | _ => none }
def FnSpecialWrongFalsely : Prop := fnSpecialRow.holds Try.pinned (OpenSpec.ofChange fnSpecialWrong)

/-- 'tenorlaw4.FnWhole': WHATEVER THE INPUT: true; the input reads as it did. -/
def fnWholeSpec : ChangeSpec := { name := "fnWhole", fn := fun _ => fun
  | [d1, d2, d3] => { results := [.lit (.bool true)], args := [d1, d2, d3] }
  | _ => none }
def fnWholeRow : OpenClaim := { program := "ytjhkjekbadbgnaa", sum := "8f6a76f566999643745ba0666e4e3dce3bd611e2ba7882960d23a1f2ef0c4f51", func := "tenor/tenorlaw4.FnWhole", spec := "fnWhole", inPlace := ["math.Float64frombits", "math.Float64bits", "math.archFloor", "math.archTrunc"], recurses := true, apart := false }
def FnWholeSaid : Prop := fnWholeRow.holds Try.pinned (OpenSpec.ofChange fnWholeSpec)

/-- ITS FALSE NEIGHBOUR: 'it returns false'. Refute it at one input. -/
def fnWholeWrong : ChangeSpec := { name := "fnWhole", fn := fun _ => fun
  | [d1, d2, d3] => { results := [.lit (.bool false)], args := [d1, d2, d3] }
  | _ => none }
def FnWholeWrongFalsely : Prop := fnWholeRow.holds Try.pinned (OpenSpec.ofChange fnWholeWrong)

/- THE SECOND FORM. 'bulk': how many values and letters a reading holds, each counted each time it is reached (what is shared counts as often as it is met; a slice's spare places count too). A statement '..UptoSaid' is the law's where the arguments, and the package variables that the reading takes, are together of bulk at most 1048576: NARROWER than '..Said'. Prove '..Said' where nothing that the law and all that it calls make is longer than what came in: it says more and counts as full. Else prove '..UptoSaid'. A law counts once. -/
mutual
def uptoBulk {H : Type} : DataW H → Nat
  | .lit (.string bytes) => bytes.length + 1
  | .lit _ => 1
  | .nil => 1
  | .ptr d => uptoBulk d + 1
  | .slice elems spare => uptoBulkAll elems + uptoBulkAll spare + 1
  | .agg parts => uptoBulkAll parts + 1
  | .iface _ d => uptoBulk d + 1
  | .map entries => uptoBulkEntries entries + 1
  | .held _ => 1
def uptoBulkAll {H : Type} : List (DataW H) → Nat
  | [] => 0
  | d :: r => uptoBulk d + uptoBulkAll r
def uptoBulkEntries {H : Type} : List (Lit × DataW H) → Nat
  | [] => 0
  | x :: r => uptoBulkEntry x + uptoBulkEntries r
def uptoBulkEntry {H : Type} : Lit × DataW H → Nat
  | (.string bytes, d) => bytes.length + uptoBulk d + 1
  | (_, d) => uptoBulk d + 1
 end
def uptoSmall : (H : Type) → List (DataW H) → Bool := fun _ ds => decide (uptoBulkAll ds ≤ 1048576)
def OpenSpec.upto (s : _root_.Go.ChangeSpec) : _root_.Go.OpenSpec := { _root_.Go.OpenSpec.ofChange s with cond := some uptoSmall }

/-- 'tenorlaw12.SolvePolys', WHERE WHAT IT READS IS OF BULK AT MOST 1048576: true; the input reads as it did. -/
def solvePolysUptoRow : OpenClaim := { program := "ytjhkjekbadbgnaa", sum := "8f6a76f566999643745ba0666e4e3dce3bd611e2ba7882960d23a1f2ef0c4f51", func := "tenor/tenorlaw12.SolvePolys", spec := "solvePolys", inPlace := ["math.Float64bits", "math.Float64frombits"], unfollowed := true, recurses := true, apart := false, narrowed := true }
def SolvePolysUptoSaid : Prop := solvePolysUptoRow.holds Try.pinned (OpenSpec.upto solvePolysSpec)

/-- 'tenorlaw12.SolveJumps', WHERE WHAT IT READS IS OF BULK AT MOST 1048576: true; the input reads as it did. -/
def solveJumpsUptoRow : OpenClaim := { program := "ytjhkjekbadbgnaa", sum := "8f6a76f566999643745ba0666e4e3dce3bd611e2ba7882960d23a1f2ef0c4f51", func := "tenor/tenorlaw12.SolveJumps", spec := "solveJumps", inPlace := ["math.Float64bits", "math.Float64frombits"], unfollowed := true, recurses := true, apart := false, narrowed := true }
def SolveJumpsUptoSaid : Prop := solveJumpsUptoRow.holds Try.pinned (OpenSpec.upto solveJumpsSpec)

/-- 'tenorlaw12.SolveOdd', WHERE WHAT IT READS IS OF BULK AT MOST 1048576: true; the input reads as it did. -/
def solveOddUptoRow : OpenClaim := { program := "ytjhkjekbadbgnaa", sum := "8f6a76f566999643745ba0666e4e3dce3bd611e2ba7882960d23a1f2ef0c4f51", func := "tenor/tenorlaw12.SolveOdd", spec := "solveOdd", inPlace := ["math.Float64bits", "math.Float64frombits"], unfollowed := true, recurses := true, apart := false, narrowed := true }
def SolveOddUptoSaid : Prop := solveOddUptoRow.holds Try.pinned (OpenSpec.upto solveOddSpec)

/-- 'tenorlaw12.SolveNil', WHERE WHAT IT READS IS OF BULK AT MOST 1048576: true; the input reads as it did. -/
def solveNilUptoRow : OpenClaim := { program := "ytjhkjekbadbgnaa", sum := "8f6a76f566999643745ba0666e4e3dce3bd611e2ba7882960d23a1f2ef0c4f51", func := "tenor/tenorlaw12.SolveNil", spec := "solveNil", inPlace := ["math.Float64bits", "math.Float64frombits"], unfollowed := true, recurses := true, apart := false, narrowed := true }
def SolveNilUptoSaid : Prop := solveNilUptoRow.holds Try.pinned (OpenSpec.upto solveNilSpec)

/-- 'tenorlaw12.SolveBrackets', WHERE WHAT IT READS IS OF BULK AT MOST 1048576: true; the input reads as it did. -/
def solveBracketsUptoRow : OpenClaim := { program := "ytjhkjekbadbgnaa", sum := "8f6a76f566999643745ba0666e4e3dce3bd611e2ba7882960d23a1f2ef0c4f51", func := "tenor/tenorlaw12.SolveBrackets", spec := "solveBrackets", inPlace := ["math.Float64bits", "math.Float64frombits"], unfollowed := true, recurses := true, apart := false, narrowed := true }
def SolveBracketsUptoSaid : Prop := solveBracketsUptoRow.holds Try.pinned (OpenSpec.upto solveBracketsSpec)

/-- 'tenorlaw4.FnExps', WHERE WHAT IT READS IS OF BULK AT MOST 1048576: true; the input reads as it did. -/
def fnExpsUptoRow : OpenClaim := { program := "ytjhkjekbadbgnaa", sum := "8f6a76f566999643745ba0666e4e3dce3bd611e2ba7882960d23a1f2ef0c4f51", func := "tenor/tenorlaw4.FnExps", spec := "fnExps", inPlace := ["math.Float64frombits", "math.archFloor", "math.Float64bits", "math.archTrunc"], recurses := true, apart := false, narrowed := true }
def FnExpsUptoSaid : Prop := fnExpsUptoRow.holds Try.pinned (OpenSpec.upto fnExpsSpec)

/-- 'tenorlaw4.FnLns', WHERE WHAT IT READS IS OF BULK AT MOST 1048576: true; the input reads as it did. -/
def fnLnsUptoRow : OpenClaim := { program := "ytjhkjekbadbgnaa", sum := "8f6a76f566999643745ba0666e4e3dce3bd611e2ba7882960d23a1f2ef0c4f51", func := "tenor/tenorlaw4.FnLns", spec := "fnLns", inPlace := ["math.Float64frombits", "math.Float64bits", "math.archFloor", "math.archTrunc"], recurses := true, apart := false, narrowed := true }
def FnLnsUptoSaid : Prop := fnLnsUptoRow.holds Try.pinned (OpenSpec.upto fnLnsSpec)

/-- 'tenorlaw4.FnPows', WHERE WHAT IT READS IS OF BULK AT MOST 1048576: true; the input reads as it did. -/
def fnPowsUptoRow : OpenClaim := { program := "ytjhkjekbadbgnaa", sum := "8f6a76f566999643745ba0666e4e3dce3bd611e2ba7882960d23a1f2ef0c4f51", func := "tenor/tenorlaw4.FnPows", spec := "fnPows", inPlace := ["math.Float64frombits", "math.Float64bits", "math.archFloor", "math.archTrunc"], recurses := true, apart := false, narrowed := true }
def FnPowsUptoSaid : Prop := fnPowsUptoRow.holds Try.pinned (OpenSpec.upto fnPowsSpec)

/-- 'tenorlaw4.FnHorners', WHERE WHAT IT READS IS OF BULK AT MOST 1048576: true; the input reads as it did. -/
def fnHornersUptoRow : OpenClaim := { program := "ytjhkjekbadbgnaa", sum := "8f6a76f566999643745ba0666e4e3dce3bd611e2ba7882960d23a1f2ef0c4f51", func := "tenor/tenorlaw4.FnHorners", spec := "fnHorners", inPlace := ["math.Float64frombits", "math.archFloor", "math.Float64bits", "math.archTrunc"], recurses := true, apart := false, narrowed := true }
def FnHornersUptoSaid : Prop := fnHornersUptoRow.holds Try.pinned (OpenSpec.upto fnHornersSpec)

/-- 'tenorlaw4.FnSpecial', WHERE WHAT IT READS IS OF BULK AT MOST 1048576: true; the input reads as it did. -/
def fnSpecialUptoRow : OpenClaim := { program := "ytjhkjekbadbgnaa", sum := "8f6a76f566999643745ba0666e4e3dce3bd611e2ba7882960d23a1f2ef0c4f51", func := "tenor/tenorlaw4.FnSpecial", spec := "fnSpecial", inPlace := ["math.Float64frombits", "math.archFloor", "math.Float64bits", "math.archTrunc"], recurses := true, apart := false, narrowed := true }
def FnSpecialUptoSaid : Prop := fnSpecialUptoRow.holds Try.pinned (OpenSpec.upto fnSpecialSpec)

/-- 'tenorlaw4.FnWhole', WHERE WHAT IT READS IS OF BULK AT MOST 1048576: true; the input reads as it did. -/
def fnWholeUptoRow : OpenClaim := { program := "ytjhkjekbadbgnaa", sum := "8f6a76f566999643745ba0666e4e3dce3bd611e2ba7882960d23a1f2ef0c4f51", func := "tenor/tenorlaw4.FnWhole", spec := "fnWhole", inPlace := ["math.Float64frombits", "math.Float64bits", "math.archFloor", "math.archTrunc"], recurses := true, apart := false, narrowed := true }
def FnWholeUptoSaid : Prop := fnWholeUptoRow.holds Try.pinned (OpenSpec.upto fnWholeSpec)

end Rows
end Go.Proofs.Ytjhkjekbadbgnaa

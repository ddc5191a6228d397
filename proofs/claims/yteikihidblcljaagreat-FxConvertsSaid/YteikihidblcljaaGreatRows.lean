/-
  No cell of these rows narrows 'for every input' (looked for: loops, veiled, ifaces, maps, wideKeys, modest, calm, conditions, laid).
  DERIVED. THE GIVEN ROWS OF THIS SEAT. 4 by the template 'for every input the law returns true; each argument reads behind the call as it read before'; 0 by the template 'total and deterministic' (their statements: YteikihidblcljaaGreatTotals.lean).
  GIVEN WITH THE SEED: the statements are not yours to turn. If you find one false, say at which input.
  Laid BY PROGRAM, IN A SANDBOX (cutbox-rows.mjs): the forced cells as the released guide's own fill.sh prints them over the translation 069fba38204eb67b… (all of the seat's roots in one cut). By AI agents, Wed Nov 11 2026. No macro, syntax, notation, axiom, sorry.
-/
import Derived.Test.YteikihidblcljaaGreatChecked
import GoSem.Claim
import GoSem.ClaimJoined
import GoSem.ClaimMapViews
import Derived.JoinedTies
import Derived.KernelRfl
namespace Go.Proofs.YteikihidblcljaaGreat
/- THE CELL 'sum', in the pinned program and in every row, IS THE sha256 OF THE DUMP (.gsa) THAT YteikihidblcljaaGreatProg.lean LOADS. Nothing in Lean hashes anything: it is a label: what it is worth is what the hold of that sum in a sandbox is worth. -/
noncomputable def Tryz.pinned : Pinned := { name := "yteikihidblcljaagreat", sum := "069fba38204eb67bcbc3abb2ab28c0e2f288fbce34d5446360756deecdb9c326", checked := Tryz.checked }
namespace Rows
def none {H : Type} : Left H := { results := [], args := [] }

/-- 'tenorlaw23.FxConverts': WHATEVER THE INPUT: true; the input reads as it did. -/
def fxConvertsSpec : ChangeSpec := { name := "fxConverts", fn := fun _ => fun
  | [d1, d2, d3] => { results := [.lit (.bool true)], args := [d1, d2, d3] }
  | _ => none }
def fxConvertsRow : OpenClaim := { program := "yteikihidblcljaagreat", sum := "069fba38204eb67bcbc3abb2ab28c0e2f288fbce34d5446360756deecdb9c326", func := "tenor/tenorlaw23.FxConverts", spec := "fxConverts", inPlace := ["math.Float64bits", "math/bits.Add64", "math/bits.Sub64", "math.Float64frombits"], recurses := true, named := ["math/bits.divideError", "math/bits.overflowError"], apart := false }
def FxConvertsSaid : Prop := fxConvertsRow.holds Tryz.pinned (OpenSpec.ofChange fxConvertsSpec)

/-- ITS FALSE NEIGHBOUR: 'it returns false'. Refute it at one input. -/
def fxConvertsWrong : ChangeSpec := { name := "fxConverts", fn := fun _ => fun
  | [d1, d2, d3] => { results := [.lit (.bool false)], args := [d1, d2, d3] }
  | _ => none }
def FxConvertsWrongFalsely : Prop := fxConvertsRow.holds Tryz.pinned (OpenSpec.ofChange fxConvertsWrong)

/-- 'tenorlaw24.LifeRolls': WHATEVER THE INPUT: true; the input reads as it did. -/
def lifeRollsSpec : ChangeSpec := { name := "lifeRolls", fn := fun _ => fun
  | [d1, d2] => { results := [.lit (.bool true)], args := [d1, d2] }
  | _ => none }
def lifeRollsRow : OpenClaim := { program := "yteikihidblcljaagreat", sum := "069fba38204eb67bcbc3abb2ab28c0e2f288fbce34d5446360756deecdb9c326", func := "tenor/tenorlaw24.LifeRolls", spec := "lifeRolls", inPlace := ["math.Float64bits", "math/bits.Sub64", "math/bits.Add64", "math.Float64frombits", "math.archFloor", "math.archTrunc"], unfollowed := true, recurses := true, named := ["math/bits.divideError", "math/bits.overflowError"], apart := false }
def LifeRollsSaid : Prop := lifeRollsRow.holds Tryz.pinned (OpenSpec.ofChange lifeRollsSpec)

/-- ITS FALSE NEIGHBOUR: 'it returns false'. Refute it at one input. -/
def lifeRollsWrong : ChangeSpec := { name := "lifeRolls", fn := fun _ => fun
  | [d1, d2] => { results := [.lit (.bool false)], args := [d1, d2] }
  | _ => none }
def LifeRollsWrongFalsely : Prop := lifeRollsRow.holds Tryz.pinned (OpenSpec.ofChange lifeRollsWrong)

/-- 'tenorlaw24.LifeLent': WHATEVER THE INPUT: true; the input reads as it did. -/
def lifeLentSpec : ChangeSpec := { name := "lifeLent", fn := fun _ => fun
  | [d1, d2, d3, d4] => { results := [.lit (.bool true)], args := [d1, d2, d3, d4] }
  | _ => none }
def lifeLentRow : OpenClaim := { program := "yteikihidblcljaagreat", sum := "069fba38204eb67bcbc3abb2ab28c0e2f288fbce34d5446360756deecdb9c326", func := "tenor/tenorlaw24.LifeLent", spec := "lifeLent", inPlace := ["math.Float64bits", "math/bits.Sub64", "math/bits.Add64", "math.Float64frombits", "math.archFloor", "math.archTrunc"], unfollowed := true, recurses := true, named := ["math/bits.divideError", "math/bits.overflowError"], apart := false }
def LifeLentSaid : Prop := lifeLentRow.holds Tryz.pinned (OpenSpec.ofChange lifeLentSpec)

/-- ITS FALSE NEIGHBOUR: 'it returns false'. Refute it at one input. -/
def lifeLentWrong : ChangeSpec := { name := "lifeLent", fn := fun _ => fun
  | [d1, d2, d3, d4] => { results := [.lit (.bool false)], args := [d1, d2, d3, d4] }
  | _ => none }
def LifeLentWrongFalsely : Prop := lifeLentRow.holds Tryz.pinned (OpenSpec.ofChange lifeLentWrong)

/-- 'tenorlaw24.LifePlays': WHATEVER THE INPUT: true; the input reads as it did. -/
def lifePlaysSpec : ChangeSpec := { name := "lifePlays", fn := fun _ => fun
  | [d1, d2, d3, d4] => { results := [.lit (.bool true)], args := [d1, d2, d3, d4] }
  | _ => none }
def lifePlaysRow : OpenClaim := { program := "yteikihidblcljaagreat", sum := "069fba38204eb67bcbc3abb2ab28c0e2f288fbce34d5446360756deecdb9c326", func := "tenor/tenorlaw24.LifePlays", spec := "lifePlays", inPlace := ["math.Float64bits", "math/bits.Sub64", "math/bits.Add64", "math.Float64frombits", "math.archFloor", "math.archTrunc"], unfollowed := true, recurses := true, named := ["math/bits.divideError", "math/bits.overflowError"], apart := false }
def LifePlaysSaid : Prop := lifePlaysRow.holds Tryz.pinned (OpenSpec.ofChange lifePlaysSpec)

/-- ITS FALSE NEIGHBOUR: 'it returns false'. Refute it at one input. -/
def lifePlaysWrong : ChangeSpec := { name := "lifePlays", fn := fun _ => fun
  | [d1, d2, d3, d4] => { results := [.lit (.bool false)], args := [d1, d2, d3, d4] }
  | _ => none }
def LifePlaysWrongFalsely : Prop := lifePlaysRow.holds Tryz.pinned (OpenSpec.ofChange lifePlaysWrong)

/- THE SECOND FORM. 'bulk': how many values and letters a reading holds, each counted each time it is reached (what is shared counts as often as it is met; a slice's spare places count too). A statement '..UptoSaid' is the law's where the arguments, and the package variables that the reading takes, are together of bulk at most 1048576: NARROWER than '..Said'. Prove '..Said' where nothing that the law and all that it calls make is longer than what came in: it says more and counts as full. Else prove '..UptoSaid'. A law counts once. -/
mutual
def uptoBulk {H : Type} : DataW H → Nat
  | .lit (.string bytes) => bytes.length + 1
  | .lit _ => 1
  | .nil => 1
  | .ptr d => uptoBulk d + 1
  | .slice elems spare => uptoBulkAll elems + uptoBulkAll spare + 1
  | .agg parts => uptoBulkAll parts + 1
  | .iface _ d => uptoBulk d + 1
  | .map entries => uptoBulkEntries entries + 1
  | .held _ => 1
def uptoBulkAll {H : Type} : List (DataW H) → Nat
  | [] => 0
  | d :: r => uptoBulk d + uptoBulkAll r
def uptoBulkEntries {H : Type} : List (Lit × DataW H) → Nat
  | [] => 0
  | x :: r => uptoBulkEntry x + uptoBulkEntries r
def uptoBulkEntry {H : Type} : Lit × DataW H → Nat
  | (.string bytes, d) => bytes.length + uptoBulk d + 1
  | (_, d) => uptoBulk d + 1
 end
def uptoSmall : (H : Type) → List (DataW H) → Bool := fun _ ds => decide (uptoBulkAll ds ≤ 1048576)
def OpenSpec.upto (s : _root_.Go.ChangeSpec) : _root_.Go.OpenSpec := { _root_.Go.OpenSpec.ofChange s with cond := some uptoSmall }

/-- 'tenorlaw23.FxConverts', WHERE WHAT IT READS IS OF BULK AT MOST 1048576: true; the input reads as it did. -/
def fxConvertsUptoRow : OpenClaim := { program := "yteikihidblcljaagreat", sum := "069fba38204eb67bcbc3abb2ab28c0e2f288fbce34d5446360756deecdb9c326", func := "tenor/tenorlaw23.FxConverts", spec := "fxConverts", inPlace := ["math.Float64bits", "math/bits.Add64", "math/bits.Sub64", "math.Float64frombits"], recurses := true, named := ["math/bits.divideError", "math/bits.overflowError"], apart := false, narrowed := true }
def FxConvertsUptoSaid : Prop := fxConvertsUptoRow.holds Tryz.pinned (OpenSpec.upto fxConvertsSpec)

/-- 'tenorlaw24.LifeRolls', WHERE WHAT IT READS IS OF BULK AT MOST 1048576: true; the input reads as it did. -/
def lifeRollsUptoRow : OpenClaim := { program := "yteikihidblcljaagreat", sum := "069fba38204eb67bcbc3abb2ab28c0e2f288fbce34d5446360756deecdb9c326", func := "tenor/tenorlaw24.LifeRolls", spec := "lifeRolls", inPlace := ["math.Float64bits", "math/bits.Sub64", "math/bits.Add64", "math.Float64frombits", "math.archFloor", "math.archTrunc"], unfollowed := true, recurses := true, named := ["math/bits.divideError", "math/bits.overflowError"], apart := false, narrowed := true }
def LifeRollsUptoSaid : Prop := lifeRollsUptoRow.holds Tryz.pinned (OpenSpec.upto lifeRollsSpec)

/-- 'tenorlaw24.LifeLent', WHERE WHAT IT READS IS OF BULK AT MOST 1048576: true; the input reads as it did. -/
def lifeLentUptoRow : OpenClaim := { program := "yteikihidblcljaagreat", sum := "069fba38204eb67bcbc3abb2ab28c0e2f288fbce34d5446360756deecdb9c326", func := "tenor/tenorlaw24.LifeLent", spec := "lifeLent", inPlace := ["math.Float64bits", "math/bits.Sub64", "math/bits.Add64", "math.Float64frombits", "math.archFloor", "math.archTrunc"], unfollowed := true, recurses := true, named := ["math/bits.divideError", "math/bits.overflowError"], apart := false, narrowed := true }
def LifeLentUptoSaid : Prop := lifeLentUptoRow.holds Tryz.pinned (OpenSpec.upto lifeLentSpec)

/-- 'tenorlaw24.LifePlays', WHERE WHAT IT READS IS OF BULK AT MOST 1048576: true; the input reads as it did. -/
def lifePlaysUptoRow : OpenClaim := { program := "yteikihidblcljaagreat", sum := "069fba38204eb67bcbc3abb2ab28c0e2f288fbce34d5446360756deecdb9c326", func := "tenor/tenorlaw24.LifePlays", spec := "lifePlays", inPlace := ["math.Float64bits", "math/bits.Sub64", "math/bits.Add64", "math.Float64frombits", "math.archFloor", "math.archTrunc"], unfollowed := true, recurses := true, named := ["math/bits.divideError", "math/bits.overflowError"], apart := false, narrowed := true }
def LifePlaysUptoSaid : Prop := lifePlaysUptoRow.holds Tryz.pinned (OpenSpec.upto lifePlaysSpec)

end Rows
end Go.Proofs.YteikihidblcljaaGreat

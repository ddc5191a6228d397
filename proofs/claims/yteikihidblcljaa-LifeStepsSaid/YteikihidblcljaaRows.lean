/-
  No cell of these rows narrows 'for every input' (looked for: loops, veiled, ifaces, maps, wideKeys, modest, calm, conditions, laid).
  DERIVED. THE GIVEN ROWS OF THIS SEAT. 4 by the template 'for every input the law returns true; each argument reads behind the call as it read before'; 0 by the template 'total and deterministic' (their statements: YteikihidblcljaaTotals.lean).
  GIVEN WITH THE SEED: the statements are not yours to turn. If you find one false, say at which input.
  Laid BY PROGRAM, IN A SANDBOX (cutbox-rows.mjs): the forced cells as the released guide's own fill.sh prints them over the translation 46019f715ee6a8ad… (all of the seat's roots in one cut). By AI agents, Wed Nov 11 2026. No macro, syntax, notation, axiom, sorry.
-/
import Derived.Test.YteikihidblcljaaChecked
import GoSem.Claim
import GoSem.ClaimJoined
import GoSem.ClaimMapViews
import Derived.JoinedTies
import Derived.KernelRfl
namespace Go.Proofs.Yteikihidblcljaa
/- THE CELL 'sum', in the pinned program and in every row, IS THE sha256 OF THE DUMP (.gsa) THAT YteikihidblcljaaProg.lean LOADS. Nothing in Lean hashes anything: it is a label: what it is worth is what the hold of that sum in a sandbox is worth. -/
noncomputable def Try.pinned : Pinned := { name := "yteikihidblcljaa", sum := "46019f715ee6a8adaa103d3f7e1835d8254e4d89ddaa5acf9bdba5458eeb7b0a", checked := Try.checked }
namespace Rows
def none {H : Type} : Left H := { results := [], args := [] }

/-- 'tenorlaw3.AccPlays': WHATEVER THE INPUT: true; the input reads as it did. -/
def accPlaysSpec : ChangeSpec := { name := "accPlays", fn := fun _ => fun
  | [d] => { results := [.lit (.bool true)], args := [d] }
  | _ => none }
def accPlaysRow : OpenClaim := { program := "yteikihidblcljaa", sum := "46019f715ee6a8adaa103d3f7e1835d8254e4d89ddaa5acf9bdba5458eeb7b0a", func := "tenor/tenorlaw3.AccPlays", spec := "accPlays", inPlace := ["math.Float64bits", "math/bits.Sub64", "math/bits.Add64", "math.Float64frombits"], recurses := true, named := ["math/bits.divideError", "math/bits.overflowError"], apart := false }
def AccPlaysSaid : Prop := accPlaysRow.holds Try.pinned (OpenSpec.ofChange accPlaysSpec)

/-- ITS FALSE NEIGHBOUR: 'it returns false'. Refute it at one input. -/
def accPlaysWrong : ChangeSpec := { name := "accPlays", fn := fun _ => fun
  | [d] => { results := [.lit (.bool false)], args := [d] }
  | _ => none }
def AccPlaysWrongFalsely : Prop := accPlaysRow.holds Try.pinned (OpenSpec.ofChange accPlaysWrong)

/-- 'tenorlaw10.InterpTurns': WHATEVER THE INPUT: true; the input reads as it did. -/
def interpTurnsSpec : ChangeSpec := { name := "interpTurns", fn := fun _ => fun
  | [d1, d2] => { results := [.lit (.bool true)], args := [d1, d2] }
  | _ => none }
def interpTurnsRow : OpenClaim := { program := "yteikihidblcljaa", sum := "46019f715ee6a8adaa103d3f7e1835d8254e4d89ddaa5acf9bdba5458eeb7b0a", func := "tenor/tenorlaw10.InterpTurns", spec := "interpTurns", inPlace := ["math.Float64bits", "math/bits.Sub64", "math/bits.Add64", "math.Float64frombits", "math.archFloor", "math.archTrunc"], unfollowed := true, recurses := true, named := ["math/bits.divideError", "math/bits.overflowError"], apart := false }
def InterpTurnsSaid : Prop := interpTurnsRow.holds Try.pinned (OpenSpec.ofChange interpTurnsSpec)

/-- ITS FALSE NEIGHBOUR: 'it returns false'. Refute it at one input. -/
def interpTurnsWrong : ChangeSpec := { name := "interpTurns", fn := fun _ => fun
  | [d1, d2] => { results := [.lit (.bool false)], args := [d1, d2] }
  | _ => none }
def InterpTurnsWrongFalsely : Prop := interpTurnsRow.holds Try.pinned (OpenSpec.ofChange interpTurnsWrong)

/-- 'tenorlaw24.LifeSteps': WHATEVER THE INPUT: true; the input reads as it did. -/
def lifeStepsSpec : ChangeSpec := { name := "lifeSteps", fn := fun _ => fun
  | [d1, d2, d3, d4, d5] => { results := [.lit (.bool true)], args := [d1, d2, d3, d4, d5] }
  | _ => none }
def lifeStepsRow : OpenClaim := { program := "yteikihidblcljaa", sum := "46019f715ee6a8adaa103d3f7e1835d8254e4d89ddaa5acf9bdba5458eeb7b0a", func := "tenor/tenorlaw24.LifeSteps", spec := "lifeSteps", inPlace := ["math.Float64bits", "math/bits.Sub64", "math/bits.Add64", "math.Float64frombits", "math.archFloor", "math.archTrunc"], unfollowed := true, recurses := true, named := ["math/bits.divideError", "math/bits.overflowError"], apart := false }
def LifeStepsSaid : Prop := lifeStepsRow.holds Try.pinned (OpenSpec.ofChange lifeStepsSpec)

/-- ITS FALSE NEIGHBOUR: 'it returns false'. Refute it at one input. -/
def lifeStepsWrong : ChangeSpec := { name := "lifeSteps", fn := fun _ => fun
  | [d1, d2, d3, d4, d5] => { results := [.lit (.bool false)], args := [d1, d2, d3, d4, d5] }
  | _ => none }
def LifeStepsWrongFalsely : Prop := lifeStepsRow.holds Try.pinned (OpenSpec.ofChange lifeStepsWrong)

/-- 'tenorlaw24.LifeFalls': WHATEVER THE INPUT: true; the input reads as it did. -/
def lifeFallsSpec : ChangeSpec := { name := "lifeFalls", fn := fun _ => fun
  | [d1, d2] => { results := [.lit (.bool true)], args := [d1, d2] }
  | _ => none }
def lifeFallsRow : OpenClaim := { program := "yteikihidblcljaa", sum := "46019f715ee6a8adaa103d3f7e1835d8254e4d89ddaa5acf9bdba5458eeb7b0a", func := "tenor/tenorlaw24.LifeFalls", spec := "lifeFalls", inPlace := ["math.Float64bits", "math/bits.Sub64", "math/bits.Add64", "math.Float64frombits", "math.archFloor", "math.archTrunc"], unfollowed := true, recurses := true, named := ["math/bits.divideError", "math/bits.overflowError"], apart := false }
def LifeFallsSaid : Prop := lifeFallsRow.holds Try.pinned (OpenSpec.ofChange lifeFallsSpec)

/-- ITS FALSE NEIGHBOUR: 'it returns false'. Refute it at one input. -/
def lifeFallsWrong : ChangeSpec := { name := "lifeFalls", fn := fun _ => fun
  | [d1, d2] => { results := [.lit (.bool false)], args := [d1, d2] }
  | _ => none }
def LifeFallsWrongFalsely : Prop := lifeFallsRow.holds Try.pinned (OpenSpec.ofChange lifeFallsWrong)

/- THE SECOND FORM. 'bulk': how many values and letters a reading holds, each counted each time it is reached (what is shared counts as often as it is met; a slice's spare places count too). A statement '..UptoSaid' is the law's where the arguments, and the package variables that the reading takes, are together of bulk at most 1048576: NARROWER than '..Said'. Prove '..Said' where nothing that the law and all that it calls make is longer than what came in: it says more and counts as full. Else prove '..UptoSaid'. A law counts once. -/
mutual
def uptoBulk {H : Type} : DataW H → Nat
  | .lit (.string bytes) => bytes.length + 1
  | .lit _ => 1
  | .nil => 1
  | .ptr d => uptoBulk d + 1
  | .slice elems spare => uptoBulkAll elems + uptoBulkAll spare + 1
  | .agg parts => uptoBulkAll parts + 1
  | .iface _ d => uptoBulk d + 1
  | .map entries => uptoBulkEntries entries + 1
  | .held _ => 1
def uptoBulkAll {H : Type} : List (DataW H) → Nat
  | [] => 0
  | d :: r => uptoBulk d + uptoBulkAll r
def uptoBulkEntries {H : Type} : List (Lit × DataW H) → Nat
  | [] => 0
  | x :: r => uptoBulkEntry x + uptoBulkEntries r
def uptoBulkEntry {H : Type} : Lit × DataW H → Nat
  | (.string bytes, d) => bytes.length + uptoBulk d + 1
  | (_, d) => uptoBulk d + 1
 end
def uptoSmall : (H : Type) → List (DataW H) → Bool := fun _ ds => decide (uptoBulkAll ds ≤ 1048576)
def OpenSpec.upto (s : _root_.Go.ChangeSpec) : _root_.Go.OpenSpec := { _root_.Go.OpenSpec.ofChange s with cond := some uptoSmall }

/-- 'tenorlaw3.AccPlays', WHERE WHAT IT READS IS OF BULK AT MOST 1048576: true; the input reads as it did. -/
def accPlaysUptoRow : OpenClaim := { program := "yteikihidblcljaa", sum := "46019f715ee6a8adaa103d3f7e1835d8254e4d89ddaa5acf9bdba5458eeb7b0a", func := "tenor/tenorlaw3.AccPlays", spec := "accPlays", inPlace := ["math.Float64bits", "math/bits.Sub64", "math/bits.Add64", "math.Float64frombits"], recurses := true, named := ["math/bits.divideError", "math/bits.overflowError"], apart := false, narrowed := true }
def AccPlaysUptoSaid : Prop := accPlaysUptoRow.holds Try.pinned (OpenSpec.upto accPlaysSpec)

/-- 'tenorlaw10.InterpTurns', WHERE WHAT IT READS IS OF BULK AT MOST 1048576: true; the input reads as it did. -/
def interpTurnsUptoRow : OpenClaim := { program := "yteikihidblcljaa", sum := "46019f715ee6a8adaa103d3f7e1835d8254e4d89ddaa5acf9bdba5458eeb7b0a", func := "tenor/tenorlaw10.InterpTurns", spec := "interpTurns", inPlace := ["math.Float64bits", "math/bits.Sub64", "math/bits.Add64", "math.Float64frombits", "math.archFloor", "math.archTrunc"], unfollowed := true, recurses := true, named := ["math/bits.divideError", "math/bits.overflowError"], apart := false, narrowed := true }
def InterpTurnsUptoSaid : Prop := interpTurnsUptoRow.holds Try.pinned (OpenSpec.upto interpTurnsSpec)

/-- 'tenorlaw24.LifeSteps', WHERE WHAT IT READS IS OF BULK AT MOST 1048576: true; the input reads as it did. -/
def lifeStepsUptoRow : OpenClaim := { program := "yteikihidblcljaa", sum := "46019f715ee6a8adaa103d3f7e1835d8254e4d89ddaa5acf9bdba5458eeb7b0a", func := "tenor/tenorlaw24.LifeSteps", spec := "lifeSteps", inPlace := ["math.Float64bits", "math/bits.Sub64", "math/bits.Add64", "math.Float64frombits", "math.archFloor", "math.archTrunc"], unfollowed := true, recurses := true, named := ["math/bits.divideError", "math/bits.overflowError"], apart := false, narrowed := true }
def LifeStepsUptoSaid : Prop := lifeStepsUptoRow.holds Try.pinned (OpenSpec.upto lifeStepsSpec)

/-- 'tenorlaw24.LifeFalls', WHERE WHAT IT READS IS OF BULK AT MOST 1048576: true; the input reads as it did. -/
def lifeFallsUptoRow : OpenClaim := { program := "yteikihidblcljaa", sum := "46019f715ee6a8adaa103d3f7e1835d8254e4d89ddaa5acf9bdba5458eeb7b0a", func := "tenor/tenorlaw24.LifeFalls", spec := "lifeFalls", inPlace := ["math.Float64bits", "math/bits.Sub64", "math/bits.Add64", "math.Float64frombits", "math.archFloor", "math.archTrunc"], unfollowed := true, recurses := true, named := ["math/bits.divideError", "math/bits.overflowError"], apart := false, narrowed := true }
def LifeFallsUptoSaid : Prop := lifeFallsUptoRow.holds Try.pinned (OpenSpec.upto lifeFallsSpec)

end Rows
end Go.Proofs.Yteikihidblcljaa

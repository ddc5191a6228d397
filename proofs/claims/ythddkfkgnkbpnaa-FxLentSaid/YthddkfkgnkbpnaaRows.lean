/-
  No cell of these rows narrows 'for every input' (looked for: loops, veiled, ifaces, maps, wideKeys, modest, calm, conditions, laid).
  DERIVED. THE GIVEN ROWS OF THIS SEAT. 8 by the template 'for every input the law returns true; each argument reads behind the call as it read before'; 0 by the template 'total and deterministic' (their statements: YthddkfkgnkbpnaaTotals.lean).
  GIVEN WITH THE SEED: the statements are not yours to turn. If you find one false, say at which input.
  Laid BY PROGRAM, IN A SANDBOX (cutbox-rows.mjs): the forced cells as the released guide's own fill.sh prints them over the translation 001fd92337b3fe9d… (all of the seat's roots in one cut). By AI agents, Wed Nov 11 2026. No macro, syntax, notation, axiom, sorry.
-/
import Derived.Test.YthddkfkgnkbpnaaChecked
import GoSem.Claim
import GoSem.ClaimJoined
import GoSem.ClaimMapViews
import Derived.JoinedTies
import Derived.KernelRfl
namespace Go.Proofs.Ythddkfkgnkbpnaa
/- THE CELL 'sum', in the pinned program and in every row, IS THE sha256 OF THE DUMP (.gsa) THAT YthddkfkgnkbpnaaProg.lean LOADS. Nothing in Lean hashes anything: it is a label: what it is worth is what the hold of that sum in a sandbox is worth. -/
noncomputable def Try.pinned : Pinned := { name := "ythddkfkgnkbpnaa", sum := "001fd92337b3fe9dfdf06620cb0e90668a4a70bdf0b01a715387f7ca1a62d982", checked := Try.checked }
namespace Rows
def none {H : Type} : Left H := { results := [], args := [] }

/-- 'tenorlaw23.FxNews': WHATEVER THE INPUT: true; the input reads as it did. -/
def fxNewsSpec : ChangeSpec := { name := "fxNews", fn := fun _ => fun
  | [d] => { results := [.lit (.bool true)], args := [d] }
  | _ => none }
def fxNewsRow : OpenClaim := { program := "ythddkfkgnkbpnaa", sum := "001fd92337b3fe9dfdf06620cb0e90668a4a70bdf0b01a715387f7ca1a62d982", func := "tenor/tenorlaw23.FxNews", spec := "fxNews", inPlace := ["math.Float64bits", "math/bits.Add64", "math/bits.Sub64", "math.Float64frombits"], recurses := true, named := ["math/bits.divideError", "math/bits.overflowError"], apart := false }
def FxNewsSaid : Prop := fxNewsRow.holds Try.pinned (OpenSpec.ofChange fxNewsSpec)

/-- ITS FALSE NEIGHBOUR: 'it returns false'. Refute it at one input. -/
def fxNewsWrong : ChangeSpec := { name := "fxNews", fn := fun _ => fun
  | [d] => { results := [.lit (.bool false)], args := [d] }
  | _ => none }
def FxNewsWrongFalsely : Prop := fxNewsRow.holds Try.pinned (OpenSpec.ofChange fxNewsWrong)

/-- 'tenorlaw23.FxOrder': WHATEVER THE INPUT: true; the input reads as it did. -/
def fxOrderSpec : ChangeSpec := { name := "fxOrder", fn := fun _ => fun
  | [d1, d2] => { results := [.lit (.bool true)], args := [d1, d2] }
  | _ => none }
def fxOrderRow : OpenClaim := { program := "ythddkfkgnkbpnaa", sum := "001fd92337b3fe9dfdf06620cb0e90668a4a70bdf0b01a715387f7ca1a62d982", func := "tenor/tenorlaw23.FxOrder", spec := "fxOrder", inPlace := ["math.Float64bits", "math/bits.Add64", "math/bits.Sub64", "math.Float64frombits"], recurses := true, named := ["math/bits.divideError", "math/bits.overflowError"], apart := false }
def FxOrderSaid : Prop := fxOrderRow.holds Try.pinned (OpenSpec.ofChange fxOrderSpec)

/-- ITS FALSE NEIGHBOUR: 'it returns false'. Refute it at one input. -/
def fxOrderWrong : ChangeSpec := { name := "fxOrder", fn := fun _ => fun
  | [d1, d2] => { results := [.lit (.bool false)], args := [d1, d2] }
  | _ => none }
def FxOrderWrongFalsely : Prop := fxOrderRow.holds Try.pinned (OpenSpec.ofChange fxOrderWrong)

/-- 'tenorlaw23.FxSums': WHATEVER THE INPUT: true; the input reads as it did. -/
def fxSumsSpec : ChangeSpec := { name := "fxSums", fn := fun _ => fun
  | [d1, d2, d3, d4] => { results := [.lit (.bool true)], args := [d1, d2, d3, d4] }
  | _ => none }
def fxSumsRow : OpenClaim := { program := "ythddkfkgnkbpnaa", sum := "001fd92337b3fe9dfdf06620cb0e90668a4a70bdf0b01a715387f7ca1a62d982", func := "tenor/tenorlaw23.FxSums", spec := "fxSums", inPlace := ["math.Float64bits", "math/bits.Add64", "math/bits.Sub64", "math.Float64frombits"], recurses := true, named := ["math/bits.divideError", "math/bits.overflowError"], apart := false }
def FxSumsSaid : Prop := fxSumsRow.holds Try.pinned (OpenSpec.ofChange fxSumsSpec)

/-- ITS FALSE NEIGHBOUR: 'it returns false'. Refute it at one input. -/
def fxSumsWrong : ChangeSpec := { name := "fxSums", fn := fun _ => fun
  | [d1, d2, d3, d4] => { results := [.lit (.bool false)], args := [d1, d2, d3, d4] }
  | _ => none }
def FxSumsWrongFalsely : Prop := fxSumsRow.holds Try.pinned (OpenSpec.ofChange fxSumsWrong)

/-- 'tenorlaw23.FxCrosses': WHATEVER THE INPUT: true; the input reads as it did. -/
def fxCrossesSpec : ChangeSpec := { name := "fxCrosses", fn := fun _ => fun
  | [d1, d2, d3] => { results := [.lit (.bool true)], args := [d1, d2, d3] }
  | _ => none }
def fxCrossesRow : OpenClaim := { program := "ythddkfkgnkbpnaa", sum := "001fd92337b3fe9dfdf06620cb0e90668a4a70bdf0b01a715387f7ca1a62d982", func := "tenor/tenorlaw23.FxCrosses", spec := "fxCrosses", inPlace := ["math.Float64bits", "math/bits.Add64", "math/bits.Sub64", "math.Float64frombits"], recurses := true, named := ["math/bits.divideError", "math/bits.overflowError"], apart := false }
def FxCrossesSaid : Prop := fxCrossesRow.holds Try.pinned (OpenSpec.ofChange fxCrossesSpec)

/-- ITS FALSE NEIGHBOUR: 'it returns false'. Refute it at one input. -/
def fxCrossesWrong : ChangeSpec := { name := "fxCrosses", fn := fun _ => fun
  | [d1, d2, d3] => { results := [.lit (.bool false)], args := [d1, d2, d3] }
  | _ => none }
def FxCrossesWrongFalsely : Prop := fxCrossesRow.holds Try.pinned (OpenSpec.ofChange fxCrossesWrong)

/-- 'tenorlaw23.FxTurned': WHATEVER THE INPUT: true; the input reads as it did. -/
def fxTurnedSpec : ChangeSpec := { name := "fxTurned", fn := fun _ => fun
  | [d1, d2, d3, d4] => { results := [.lit (.bool true)], args := [d1, d2, d3, d4] }
  | _ => none }
def fxTurnedRow : OpenClaim := { program := "ythddkfkgnkbpnaa", sum := "001fd92337b3fe9dfdf06620cb0e90668a4a70bdf0b01a715387f7ca1a62d982", func := "tenor/tenorlaw23.FxTurned", spec := "fxTurned", inPlace := ["math.Float64bits", "math/bits.Add64", "math/bits.Sub64", "math.Float64frombits"], recurses := true, named := ["math/bits.divideError", "math/bits.overflowError"], apart := false }
def FxTurnedSaid : Prop := fxTurnedRow.holds Try.pinned (OpenSpec.ofChange fxTurnedSpec)

/-- ITS FALSE NEIGHBOUR: 'it returns false'. Refute it at one input. -/
def fxTurnedWrong : ChangeSpec := { name := "fxTurned", fn := fun _ => fun
  | [d1, d2, d3, d4] => { results := [.lit (.bool false)], args := [d1, d2, d3, d4] }
  | _ => none }
def FxTurnedWrongFalsely : Prop := fxTurnedRow.holds Try.pinned (OpenSpec.ofChange fxTurnedWrong)

/-- 'tenorlaw23.FxLent': WHATEVER THE INPUT: true; the input reads as it did. -/
def fxLentSpec : ChangeSpec := { name := "fxLent", fn := fun _ => fun
  | [d1, d2, d3] => { results := [.lit (.bool true)], args := [d1, d2, d3] }
  | _ => none }
def fxLentRow : OpenClaim := { program := "ythddkfkgnkbpnaa", sum := "001fd92337b3fe9dfdf06620cb0e90668a4a70bdf0b01a715387f7ca1a62d982", func := "tenor/tenorlaw23.FxLent", spec := "fxLent", inPlace := ["math.Float64bits", "math/bits.Add64", "math/bits.Sub64", "math.Float64frombits"], recurses := true, named := ["math/bits.divideError", "math/bits.overflowError"], apart := false }
def FxLentSaid : Prop := fxLentRow.holds Try.pinned (OpenSpec.ofChange fxLentSpec)

/-- ITS FALSE NEIGHBOUR: 'it returns false'. Refute it at one input. -/
def fxLentWrong : ChangeSpec := { name := "fxLent", fn := fun _ => fun
  | [d1, d2, d3] => { results := [.lit (.bool false)], args := [d1, d2, d3] }
  | _ => none }
def FxLentWrongFalsely : Prop := fxLentRow.holds Try.pinned (OpenSpec.ofChange fxLentWrong)

/-- 'tenorlaw24.LifeSteps': WHATEVER THE INPUT: true; the input reads as it did. -/
def lifeStepsSpec : ChangeSpec := { name := "lifeSteps", fn := fun _ => fun
  | [d1, d2, d3, d4, d5] => { results := [.lit (.bool true)], args := [d1, d2, d3, d4, d5] }
  | _ => none }
def lifeStepsRow : OpenClaim := { program := "ythddkfkgnkbpnaa", sum := "001fd92337b3fe9dfdf06620cb0e90668a4a70bdf0b01a715387f7ca1a62d982", func := "tenor/tenorlaw24.LifeSteps", spec := "lifeSteps", inPlace := ["math.Float64bits", "math/bits.Sub64", "math/bits.Add64", "math.Float64frombits", "math.archFloor", "math.archTrunc"], unfollowed := true, recurses := true, named := ["math/bits.divideError", "math/bits.overflowError"], apart := false }
def LifeStepsSaid : Prop := lifeStepsRow.holds Try.pinned (OpenSpec.ofChange lifeStepsSpec)

/-- ITS FALSE NEIGHBOUR: 'it returns false'. Refute it at one input. -/
def lifeStepsWrong : ChangeSpec := { name := "lifeSteps", fn := fun _ => fun
  | [d1, d2, d3, d4, d5] => { results := [.lit (.bool false)], args := [d1, d2, d3, d4, d5] }
  | _ => none }
def LifeStepsWrongFalsely : Prop := lifeStepsRow.holds Try.pinned (OpenSpec.ofChange lifeStepsWrong)

/-- 'tenorlaw24.LifeFalls': WHATEVER THE INPUT: true; the input reads as it did. -/
def lifeFallsSpec : ChangeSpec := { name := "lifeFalls", fn := fun _ => fun
  | [d1, d2] => { results := [.lit (.bool true)], args := [d1, d2] }
  | _ => none }
def lifeFallsRow : OpenClaim := { program := "ythddkfkgnkbpnaa", sum := "001fd92337b3fe9dfdf06620cb0e90668a4a70bdf0b01a715387f7ca1a62d982", func := "tenor/tenorlaw24.LifeFalls", spec := "lifeFalls", inPlace := ["math.Float64bits", "math/bits.Sub64", "math/bits.Add64", "math.Float64frombits", "math.archFloor", "math.archTrunc"], unfollowed := true, recurses := true, named := ["math/bits.divideError", "math/bits.overflowError"], apart := false }
def LifeFallsSaid : Prop := lifeFallsRow.holds Try.pinned (OpenSpec.ofChange lifeFallsSpec)

/-- ITS FALSE NEIGHBOUR: 'it returns false'. Refute it at one input. -/
def lifeFallsWrong : ChangeSpec := { name := "lifeFalls", fn := fun _ => fun
  | [d1, d2] => { results := [.lit (.bool false)], args := [d1, d2] }
  | _ => none }
def LifeFallsWrongFalsely : Prop := lifeFallsRow.holds Try.pinned (OpenSpec.ofChange lifeFallsWrong)

/- THE SECOND FORM. 'bulk': how many values and letters a reading holds, each counted each time it is reached (what is shared counts as often as it is met; a slice's spare places count too). A statement '..UptoSaid' is the law's where the arguments, and the package variables that the reading takes, are together of bulk at most 1048576: NARROWER than '..Said'. Prove '..Said' where nothing that the law and all that it calls make is longer than what came in: it says more and counts as full. Else prove '..UptoSaid'. A law counts once. -/
mutual
def uptoBulk {H : Type} : DataW H → Nat
  | .lit (.string bytes) => bytes.length + 1
  | .lit _ => 1
  | .nil => 1
  | .ptr d => uptoBulk d + 1
  | .slice elems spare => uptoBulkAll elems + uptoBulkAll spare + 1
  | .agg parts => uptoBulkAll parts + 1
  | .iface _ d => uptoBulk d + 1
  | .map entries => uptoBulkEntries entries + 1
  | .held _ => 1
def uptoBulkAll {H : Type} : List (DataW H) → Nat
  | [] => 0
  | d :: r => uptoBulk d + uptoBulkAll r
def uptoBulkEntries {H : Type} : List (Lit × DataW H) → Nat
  | [] => 0
  | x :: r => uptoBulkEntry x + uptoBulkEntries r
def uptoBulkEntry {H : Type} : Lit × DataW H → Nat
  | (.string bytes, d) => bytes.length + uptoBulk d + 1
  | (_, d) => uptoBulk d + 1
 end
def uptoSmall : (H : Type) → List (DataW H) → Bool := fun _ ds => decide (uptoBulkAll ds ≤ 1048576)
def OpenSpec.upto (s : _root_.Go.ChangeSpec) : _root_.Go.OpenSpec := { _root_.Go.OpenSpec.ofChange s with cond := some uptoSmall }

/-- 'tenorlaw23.FxNews', WHERE WHAT IT READS IS OF BULK AT MOST 1048576: true; the input reads as it did. -/
def fxNewsUptoRow : OpenClaim := { program := "ythddkfkgnkbpnaa", sum := "001fd92337b3fe9dfdf06620cb0e90668a4a70bdf0b01a715387f7ca1a62d982", func := "tenor/tenorlaw23.FxNews", spec := "fxNews", inPlace := ["math.Float64bits", "math/bits.Add64", "math/bits.Sub64", "math.Float64frombits"], recurses := true, named := ["math/bits.divideError", "math/bits.overflowError"], apart := false, narrowed := true }
def FxNewsUptoSaid : Prop := fxNewsUptoRow.holds Try.pinned (OpenSpec.upto fxNewsSpec)

/-- 'tenorlaw23.FxOrder', WHERE WHAT IT READS IS OF BULK AT MOST 1048576: true; the input reads as it did. -/
def fxOrderUptoRow : OpenClaim := { program := "ythddkfkgnkbpnaa", sum := "001fd92337b3fe9dfdf06620cb0e90668a4a70bdf0b01a715387f7ca1a62d982", func := "tenor/tenorlaw23.FxOrder", spec := "fxOrder", inPlace := ["math.Float64bits", "math/bits.Add64", "math/bits.Sub64", "math.Float64frombits"], recurses := true, named := ["math/bits.divideError", "math/bits.overflowError"], apart := false, narrowed := true }
def FxOrderUptoSaid : Prop := fxOrderUptoRow.holds Try.pinned (OpenSpec.upto fxOrderSpec)

/-- 'tenorlaw23.FxSums', WHERE WHAT IT READS IS OF BULK AT MOST 1048576: true; the input reads as it did. -/
def fxSumsUptoRow : OpenClaim := { program := "ythddkfkgnkbpnaa", sum := "001fd92337b3fe9dfdf06620cb0e90668a4a70bdf0b01a715387f7ca1a62d982", func := "tenor/tenorlaw23.FxSums", spec := "fxSums", inPlace := ["math.Float64bits", "math/bits.Add64", "math/bits.Sub64", "math.Float64frombits"], recurses := true, named := ["math/bits.divideError", "math/bits.overflowError"], apart := false, narrowed := true }
def FxSumsUptoSaid : Prop := fxSumsUptoRow.holds Try.pinned (OpenSpec.upto fxSumsSpec)

/-- 'tenorlaw23.FxCrosses', WHERE WHAT IT READS IS OF BULK AT MOST 1048576: true; the input reads as it did. -/
def fxCrossesUptoRow : OpenClaim := { program := "ythddkfkgnkbpnaa", sum := "001fd92337b3fe9dfdf06620cb0e90668a4a70bdf0b01a715387f7ca1a62d982", func := "tenor/tenorlaw23.FxCrosses", spec := "fxCrosses", inPlace := ["math.Float64bits", "math/bits.Add64", "math/bits.Sub64", "math.Float64frombits"], recurses := true, named := ["math/bits.divideError", "math/bits.overflowError"], apart := false, narrowed := true }
def FxCrossesUptoSaid : Prop := fxCrossesUptoRow.holds Try.pinned (OpenSpec.upto fxCrossesSpec)

/-- 'tenorlaw23.FxTurned', WHERE WHAT IT READS IS OF BULK AT MOST 1048576: true; the input reads as it did. -/
def fxTurnedUptoRow : OpenClaim := { program := "ythddkfkgnkbpnaa", sum := "001fd92337b3fe9dfdf06620cb0e90668a4a70bdf0b01a715387f7ca1a62d982", func := "tenor/tenorlaw23.FxTurned", spec := "fxTurned", inPlace := ["math.Float64bits", "math/bits.Add64", "math/bits.Sub64", "math.Float64frombits"], recurses := true, named := ["math/bits.divideError", "math/bits.overflowError"], apart := false, narrowed := true }
def FxTurnedUptoSaid : Prop := fxTurnedUptoRow.holds Try.pinned (OpenSpec.upto fxTurnedSpec)

/-- 'tenorlaw23.FxLent', WHERE WHAT IT READS IS OF BULK AT MOST 1048576: true; the input reads as it did. -/
def fxLentUptoRow : OpenClaim := { program := "ythddkfkgnkbpnaa", sum := "001fd92337b3fe9dfdf06620cb0e90668a4a70bdf0b01a715387f7ca1a62d982", func := "tenor/tenorlaw23.FxLent", spec := "fxLent", inPlace := ["math.Float64bits", "math/bits.Add64", "math/bits.Sub64", "math.Float64frombits"], recurses := true, named := ["math/bits.divideError", "math/bits.overflowError"], apart := false, narrowed := true }
def FxLentUptoSaid : Prop := fxLentUptoRow.holds Try.pinned (OpenSpec.upto fxLentSpec)

/-- 'tenorlaw24.LifeSteps', WHERE WHAT IT READS IS OF BULK AT MOST 1048576: true; the input reads as it did. -/
def lifeStepsUptoRow : OpenClaim := { program := "ythddkfkgnkbpnaa", sum := "001fd92337b3fe9dfdf06620cb0e90668a4a70bdf0b01a715387f7ca1a62d982", func := "tenor/tenorlaw24.LifeSteps", spec := "lifeSteps", inPlace := ["math.Float64bits", "math/bits.Sub64", "math/bits.Add64", "math.Float64frombits", "math.archFloor", "math.archTrunc"], unfollowed := true, recurses := true, named := ["math/bits.divideError", "math/bits.overflowError"], apart := false, narrowed := true }
def LifeStepsUptoSaid : Prop := lifeStepsUptoRow.holds Try.pinned (OpenSpec.upto lifeStepsSpec)

/-- 'tenorlaw24.LifeFalls', WHERE WHAT IT READS IS OF BULK AT MOST 1048576: true; the input reads as it did. -/
def lifeFallsUptoRow : OpenClaim := { program := "ythddkfkgnkbpnaa", sum := "001fd92337b3fe9dfdf06620cb0e90668a4a70bdf0b01a715387f7ca1a62d982", func := "tenor/tenorlaw24.LifeFalls", spec := "lifeFalls", inPlace := ["math.Float64bits", "math/bits.Sub64", "math/bits.Add64", "math.Float64frombits", "math.archFloor", "math.archTrunc"], unfollowed := true, recurses := true, named := ["math/bits.divideError", "math/bits.overflowError"], apart := false, narrowed := true }
def LifeFallsUptoSaid : Prop := lifeFallsUptoRow.holds Try.pinned (OpenSpec.upto lifeFallsSpec)

end Rows
end Go.Proofs.Ythddkfkgnkbpnaa

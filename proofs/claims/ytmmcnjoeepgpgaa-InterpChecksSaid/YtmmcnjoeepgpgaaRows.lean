/-
  No cell of these rows narrows 'for every input' (looked for: loops, veiled, ifaces, maps, wideKeys, modest, calm, conditions, laid).
  DERIVED. THE GIVEN ROWS OF THIS SEAT. 5 by the template 'for every input the law returns true; each argument reads behind the call as it read before'; 0 by the template 'total and deterministic' (their statements: YtmmcnjoeepgpgaaTotals.lean).
  GIVEN WITH THE SEED: the statements are not yours to turn. If you find one false, say at which input.
  Laid BY PROGRAM, IN A SANDBOX (cutbox-rows.mjs): the forced cells as the released guide's own fill.sh prints them over the translation dadbf3fb135a67b4… (all of the seat's roots in one cut). By AI agents, Wed Nov 11 2026. No macro, syntax, notation, axiom, sorry.
-/
import Derived.Test.YtmmcnjoeepgpgaaChecked
import GoSem.Claim
import GoSem.ClaimJoined
import GoSem.ClaimMapViews
import Derived.JoinedTies
import Derived.KernelRfl
namespace Go.Proofs.Ytmmcnjoeepgpgaa
/- THE CELL 'sum', in the pinned program and in every row, IS THE sha256 OF THE DUMP (.gsa) THAT YtmmcnjoeepgpgaaProg.lean LOADS. Nothing in Lean hashes anything: it is a label: what it is worth is what the hold of that sum in a sandbox is worth. -/
noncomputable def Try.pinned : Pinned := { name := "ytmmcnjoeepgpgaa", sum := "dadbf3fb135a67b4130ded5996c6d02866cf8e4e40e4973c35803f3a78828ac7", checked := Try.checked }
namespace Rows
def none {H : Type} : Left H := { results := [], args := [] }

/-- 'tenorlaw10.InterpChecks': WHATEVER THE INPUT: true; the input reads as it did. -/
def interpChecksSpec : ChangeSpec := { name := "interpChecks", fn := fun _ => fun
  | [d1, d2] => { results := [.lit (.bool true)], args := [d1, d2] }
  | _ => none }
def interpChecksRow : OpenClaim := { program := "ytmmcnjoeepgpgaa", sum := "dadbf3fb135a67b4130ded5996c6d02866cf8e4e40e4973c35803f3a78828ac7", func := "tenor/tenorlaw10.InterpChecks", spec := "interpChecks", inPlace := ["math.Float64bits", "math/bits.Sub64", "math/bits.Add64", "math.Float64frombits", "math.archFloor", "math.archTrunc"], unfollowed := true, recurses := true, named := ["math/bits.divideError", "math/bits.overflowError"], apart := false }
def InterpChecksSaid : Prop := interpChecksRow.holds Try.pinned (OpenSpec.ofChange interpChecksSpec)

/-- ITS FALSE NEIGHBOUR: 'it returns false'. Refute it at one input. -/
def interpChecksWrong : ChangeSpec := { name := "interpChecks", fn := fun _ => fun
  | [d1, d2] => { results := [.lit (.bool false)], args := [d1, d2] }
  | _ => none }
def InterpChecksWrongFalsely : Prop := interpChecksRow.holds Try.pinned (OpenSpec.ofChange interpChecksWrong)

/-- 'tenorlaw10.InterpNodes': WHATEVER THE INPUT: true; the input reads as it did. -/
def interpNodesSpec : ChangeSpec := { name := "interpNodes", fn := fun _ => fun
  | [d] => { results := [.lit (.bool true)], args := [d] }
  | _ => none }
def interpNodesRow : OpenClaim := { program := "ytmmcnjoeepgpgaa", sum := "dadbf3fb135a67b4130ded5996c6d02866cf8e4e40e4973c35803f3a78828ac7", func := "tenor/tenorlaw10.InterpNodes", spec := "interpNodes", inPlace := ["math.Float64bits", "math/bits.Sub64", "math/bits.Add64", "math.Float64frombits", "math.archFloor", "math.archTrunc"], unfollowed := true, recurses := true, named := ["math/bits.divideError", "math/bits.overflowError"], apart := false }
def InterpNodesSaid : Prop := interpNodesRow.holds Try.pinned (OpenSpec.ofChange interpNodesSpec)

/-- ITS FALSE NEIGHBOUR: 'it returns false'. Refute it at one input. -/
def interpNodesWrong : ChangeSpec := { name := "interpNodes", fn := fun _ => fun
  | [d] => { results := [.lit (.bool false)], args := [d] }
  | _ => none }
def InterpNodesWrongFalsely : Prop := interpNodesRow.holds Try.pinned (OpenSpec.ofChange interpNodesWrong)

/-- 'tenorlaw10.InterpHeld': WHATEVER THE INPUT: true; the input reads as it did. -/
def interpHeldSpec : ChangeSpec := { name := "interpHeld", fn := fun _ => fun
  | [d1, d2] => { results := [.lit (.bool true)], args := [d1, d2] }
  | _ => none }
def interpHeldRow : OpenClaim := { program := "ytmmcnjoeepgpgaa", sum := "dadbf3fb135a67b4130ded5996c6d02866cf8e4e40e4973c35803f3a78828ac7", func := "tenor/tenorlaw10.InterpHeld", spec := "interpHeld", inPlace := ["math.Float64bits", "math/bits.Sub64", "math/bits.Add64", "math.Float64frombits", "math.archFloor", "math.archTrunc"], unfollowed := true, recurses := true, named := ["math/bits.divideError", "math/bits.overflowError"], apart := false }
def InterpHeldSaid : Prop := interpHeldRow.holds Try.pinned (OpenSpec.ofChange interpHeldSpec)

/-- ITS FALSE NEIGHBOUR: 'it returns false'. Refute it at one input. -/
def interpHeldWrong : ChangeSpec := { name := "interpHeld", fn := fun _ => fun
  | [d1, d2] => { results := [.lit (.bool false)], args := [d1, d2] }
  | _ => none }
def InterpHeldWrongFalsely : Prop := interpHeldRow.holds Try.pinned (OpenSpec.ofChange interpHeldWrong)

/-- 'tenorlaw10.InterpRises': WHATEVER THE INPUT: true; the input reads as it did. -/
def interpRisesSpec : ChangeSpec := { name := "interpRises", fn := fun _ => fun
  | [d1, d2, d3] => { results := [.lit (.bool true)], args := [d1, d2, d3] }
  | _ => none }
def interpRisesRow : OpenClaim := { program := "ytmmcnjoeepgpgaa", sum := "dadbf3fb135a67b4130ded5996c6d02866cf8e4e40e4973c35803f3a78828ac7", func := "tenor/tenorlaw10.InterpRises", spec := "interpRises", inPlace := ["math.Float64bits", "math/bits.Sub64", "math/bits.Add64", "math.Float64frombits", "math.archFloor", "math.archTrunc"], unfollowed := true, recurses := true, named := ["math/bits.divideError", "math/bits.overflowError"], apart := false }
def InterpRisesSaid : Prop := interpRisesRow.holds Try.pinned (OpenSpec.ofChange interpRisesSpec)

/-- ITS FALSE NEIGHBOUR: 'it returns false'. Refute it at one input. -/
def interpRisesWrong : ChangeSpec := { name := "interpRises", fn := fun _ => fun
  | [d1, d2, d3] => { results := [.lit (.bool false)], args := [d1, d2, d3] }
  | _ => none }
def InterpRisesWrongFalsely : Prop := interpRisesRow.holds Try.pinned (OpenSpec.ofChange interpRisesWrong)

/-- 'tenorlaw10.InterpTurns': WHATEVER THE INPUT: true; the input reads as it did. -/
def interpTurnsSpec : ChangeSpec := { name := "interpTurns", fn := fun _ => fun
  | [d1, d2] => { results := [.lit (.bool true)], args := [d1, d2] }
  | _ => none }
def interpTurnsRow : OpenClaim := { program := "ytmmcnjoeepgpgaa", sum := "dadbf3fb135a67b4130ded5996c6d02866cf8e4e40e4973c35803f3a78828ac7", func := "tenor/tenorlaw10.InterpTurns", spec := "interpTurns", inPlace := ["math.Float64bits", "math/bits.Sub64", "math/bits.Add64", "math.Float64frombits", "math.archFloor", "math.archTrunc"], unfollowed := true, recurses := true, named := ["math/bits.divideError", "math/bits.overflowError"], apart := false }
def InterpTurnsSaid : Prop := interpTurnsRow.holds Try.pinned (OpenSpec.ofChange interpTurnsSpec)

/-- ITS FALSE NEIGHBOUR: 'it returns false'. Refute it at one input. -/
def interpTurnsWrong : ChangeSpec := { name := "interpTurns", fn := fun _ => fun
  | [d1, d2] => { results := [.lit (.bool false)], args := [d1, d2] }
  | _ => none }
def InterpTurnsWrongFalsely : Prop := interpTurnsRow.holds Try.pinned (OpenSpec.ofChange interpTurnsWrong)

/- THE SECOND FORM. 'bulk': how many values and letters a reading holds, each counted each time it is reached (what is shared counts as often as it is met; a slice's spare places count too). A statement '..UptoSaid' is the law's where the arguments, and the package variables that the reading takes, are together of bulk at most 1048576: NARROWER than '..Said'. Prove '..Said' where nothing that the law and all that it calls make is longer than what came in: it says more and counts as full. Else prove '..UptoSaid'. A law counts once. -/
mutual
def uptoBulk {H : Type} : DataW H → Nat
  | .lit (.string bytes) => bytes.length + 1
  | .lit _ => 1
  | .nil => 1
  | .ptr d => uptoBulk d + 1
  | .slice elems spare => uptoBulkAll elems + uptoBulkAll spare + 1
  | .agg parts => uptoBulkAll parts + 1
  | .iface _ d => uptoBulk d + 1
  | .map entries => uptoBulkEntries entries + 1
  | .held _ => 1
def uptoBulkAll {H : Type} : List (DataW H) → Nat
  | [] => 0
  | d :: r => uptoBulk d + uptoBulkAll r
def uptoBulkEntries {H : Type} : List (Lit × DataW H) → Nat
  | [] => 0
  | x :: r => uptoBulkEntry x + uptoBulkEntries r
def uptoBulkEntry {H : Type} : Lit × DataW H → Nat
  | (.string bytes, d) => bytes.length + uptoBulk d + 1
  | (_, d) => uptoBulk d + 1
 end
def uptoSmall : (H : Type) → List (DataW H) → Bool := fun _ ds => decide (uptoBulkAll ds ≤ 1048576)
def OpenSpec.upto (s : _root_.Go.ChangeSpec) : _root_.Go.OpenSpec := { _root_.Go.OpenSpec.ofChange s with cond := some uptoSmall }

/-- 'tenorlaw10.InterpChecks', WHERE WHAT IT READS IS OF BULK AT MOST 1048576: true; the input reads as it did. -/
def interpChecksUptoRow : OpenClaim := { program := "ytmmcnjoeepgpgaa", sum := "dadbf3fb135a67b4130ded5996c6d02866cf8e4e40e4973c35803f3a78828ac7", func := "tenor/tenorlaw10.InterpChecks", spec := "interpChecks", inPlace := ["math.Float64bits", "math/bits.Sub64", "math/bits.Add64", "math.Float64frombits", "math.archFloor", "math.archTrunc"], unfollowed := true, recurses := true, named := ["math/bits.divideError", "math/bits.overflowError"], apart := false, narrowed := true }
def InterpChecksUptoSaid : Prop := interpChecksUptoRow.holds Try.pinned (OpenSpec.upto interpChecksSpec)

/-- 'tenorlaw10.InterpNodes', WHERE WHAT IT READS IS OF BULK AT MOST 1048576: true; the input reads as it did. -/
def interpNodesUptoRow : OpenClaim := { program := "ytmmcnjoeepgpgaa", sum := "dadbf3fb135a67b4130ded5996c6d02866cf8e4e40e4973c35803f3a78828ac7", func := "tenor/tenorlaw10.InterpNodes", spec := "interpNodes", inPlace := ["math.Float64bits", "math/bits.Sub64", "math/bits.Add64", "math.Float64frombits", "math.archFloor", "math.archTrunc"], unfollowed := true, recurses := true, named := ["math/bits.divideError", "math/bits.overflowError"], apart := false, narrowed := true }
def InterpNodesUptoSaid : Prop := interpNodesUptoRow.holds Try.pinned (OpenSpec.upto interpNodesSpec)

/-- 'tenorlaw10.InterpHeld', WHERE WHAT IT READS IS OF BULK AT MOST 1048576: true; the input reads as it did. -/
def interpHeldUptoRow : OpenClaim := { program := "ytmmcnjoeepgpgaa", sum := "dadbf3fb135a67b4130ded5996c6d02866cf8e4e40e4973c35803f3a78828ac7", func := "tenor/tenorlaw10.InterpHeld", spec := "interpHeld", inPlace := ["math.Float64bits", "math/bits.Sub64", "math/bits.Add64", "math.Float64frombits", "math.archFloor", "math.archTrunc"], unfollowed := true, recurses := true, named := ["math/bits.divideError", "math/bits.overflowError"], apart := false, narrowed := true }
def InterpHeldUptoSaid : Prop := interpHeldUptoRow.holds Try.pinned (OpenSpec.upto interpHeldSpec)

/-- 'tenorlaw10.InterpRises', WHERE WHAT IT READS IS OF BULK AT MOST 1048576: true; the input reads as it did. -/
def interpRisesUptoRow : OpenClaim := { program := "ytmmcnjoeepgpgaa", sum := "dadbf3fb135a67b4130ded5996c6d02866cf8e4e40e4973c35803f3a78828ac7", func := "tenor/tenorlaw10.InterpRises", spec := "interpRises", inPlace := ["math.Float64bits", "math/bits.Sub64", "math/bits.Add64", "math.Float64frombits", "math.archFloor", "math.archTrunc"], unfollowed := true, recurses := true, named := ["math/bits.divideError", "math/bits.overflowError"], apart := false, narrowed := true }
def InterpRisesUptoSaid : Prop := interpRisesUptoRow.holds Try.pinned (OpenSpec.upto interpRisesSpec)

/-- 'tenorlaw10.InterpTurns', WHERE WHAT IT READS IS OF BULK AT MOST 1048576: true; the input reads as it did. -/
def interpTurnsUptoRow : OpenClaim := { program := "ytmmcnjoeepgpgaa", sum := "dadbf3fb135a67b4130ded5996c6d02866cf8e4e40e4973c35803f3a78828ac7", func := "tenor/tenorlaw10.InterpTurns", spec := "interpTurns", inPlace := ["math.Float64bits", "math/bits.Sub64", "math/bits.Add64", "math.Float64frombits", "math.archFloor", "math.archTrunc"], unfollowed := true, recurses := true, named := ["math/bits.divideError", "math/bits.overflowError"], apart := false, narrowed := true }
def InterpTurnsUptoSaid : Prop := interpTurnsUptoRow.holds Try.pinned (OpenSpec.upto interpTurnsSpec)

end Rows
end Go.Proofs.Ytmmcnjoeepgpgaa

/-
  No cell of these rows narrows 'for every input' (looked for: loops, veiled, ifaces, maps, wideKeys, modest, calm, conditions, laid).
  DERIVED. THE GIVEN ROWS OF THIS SEAT. 3 by the template 'for every input the law returns true; each argument reads behind the call as it read before'; 0 by the template 'total and deterministic' (their statements: YtmmcnjoeepgpgaaGreatTotals.lean).
  GIVEN WITH THE SEED: the statements are not yours to turn. If you find one false, say at which input.
  Laid BY PROGRAM, IN A SANDBOX (cutbox-rows.mjs): the forced cells as the released guide's own fill.sh prints them over the translation 6b12387b4f85a4ca… (all of the seat's roots in one cut). By AI agents, Wed Nov 11 2026. No macro, syntax, notation, axiom, sorry.
-/
import Derived.Test.YtmmcnjoeepgpgaaGreatChecked
import GoSem.Claim
import GoSem.ClaimJoined
import GoSem.ClaimMapViews
import Derived.JoinedTies
import Derived.KernelRfl
namespace Go.Proofs.YtmmcnjoeepgpgaaGreat
/- THE CELL 'sum', in the pinned program and in every row, IS THE sha256 OF THE DUMP (.gsa) THAT YtmmcnjoeepgpgaaGreatProg.lean LOADS. Nothing in Lean hashes anything: it is a label: what it is worth is what the hold of that sum in a sandbox is worth. -/
noncomputable def Tryz.pinned : Pinned := { name := "ytmmcnjoeepgpgaagreat", sum := "6b12387b4f85a4ca9e3a2be31ff597b4c3d5fb1cce87f10272353109aa680478", checked := Tryz.checked }
namespace Rows
def none {H : Type} : Left H := { results := [], args := [] }

/-- 'tenorlaw10.InterpAt': WHATEVER THE INPUT: true; the input reads as it did. -/
def interpAtSpec : ChangeSpec := { name := "interpAt", fn := fun _ => fun
  | [d1, d2] => { results := [.lit (.bool true)], args := [d1, d2] }
  | _ => none }
def interpAtRow : OpenClaim := { program := "ytmmcnjoeepgpgaagreat", sum := "6b12387b4f85a4ca9e3a2be31ff597b4c3d5fb1cce87f10272353109aa680478", func := "tenor/tenorlaw10.InterpAt", spec := "interpAt", inPlace := ["math.Float64bits", "math/bits.Sub64", "math/bits.Add64", "math.Float64frombits", "math.archFloor", "math.archTrunc"], unfollowed := true, recurses := true, named := ["math/bits.divideError", "math/bits.overflowError"], apart := false }
def InterpAtSaid : Prop := interpAtRow.holds Tryz.pinned (OpenSpec.ofChange interpAtSpec)

/-- ITS FALSE NEIGHBOUR: 'it returns false'. Refute it at one input. -/
def interpAtWrong : ChangeSpec := { name := "interpAt", fn := fun _ => fun
  | [d1, d2] => { results := [.lit (.bool false)], args := [d1, d2] }
  | _ => none }
def InterpAtWrongFalsely : Prop := interpAtRow.holds Tryz.pinned (OpenSpec.ofChange interpAtWrong)

/-- 'tenorlaw10.InterpSlopes': WHATEVER THE INPUT: true; the input reads as it did. -/
def interpSlopesSpec : ChangeSpec := { name := "interpSlopes", fn := fun _ => fun
  | [d1, d2] => { results := [.lit (.bool true)], args := [d1, d2] }
  | _ => none }
def interpSlopesRow : OpenClaim := { program := "ytmmcnjoeepgpgaagreat", sum := "6b12387b4f85a4ca9e3a2be31ff597b4c3d5fb1cce87f10272353109aa680478", func := "tenor/tenorlaw10.InterpSlopes", spec := "interpSlopes", inPlace := ["math.Float64bits", "math/bits.Sub64", "math/bits.Add64", "math.Float64frombits", "math.archFloor", "math.archTrunc"], unfollowed := true, recurses := true, named := ["math/bits.divideError", "math/bits.overflowError"], apart := false }
def InterpSlopesSaid : Prop := interpSlopesRow.holds Tryz.pinned (OpenSpec.ofChange interpSlopesSpec)

/-- ITS FALSE NEIGHBOUR: 'it returns false'. Refute it at one input. -/
def interpSlopesWrong : ChangeSpec := { name := "interpSlopes", fn := fun _ => fun
  | [d1, d2] => { results := [.lit (.bool false)], args := [d1, d2] }
  | _ => none }
def InterpSlopesWrongFalsely : Prop := interpSlopesRow.holds Tryz.pinned (OpenSpec.ofChange interpSlopesWrong)

/-- 'tenorlaw10.InterpLent': WHATEVER THE INPUT: true; the input reads as it did. -/
def interpLentSpec : ChangeSpec := { name := "interpLent", fn := fun _ => fun
  | [d1, d2, d3] => { results := [.lit (.bool true)], args := [d1, d2, d3] }
  | _ => none }
def interpLentRow : OpenClaim := { program := "ytmmcnjoeepgpgaagreat", sum := "6b12387b4f85a4ca9e3a2be31ff597b4c3d5fb1cce87f10272353109aa680478", func := "tenor/tenorlaw10.InterpLent", spec := "interpLent", inPlace := ["math.Float64bits", "math/bits.Sub64", "math/bits.Add64", "math.Float64frombits", "math.archFloor", "math.archTrunc"], unfollowed := true, recurses := true, named := ["math/bits.divideError", "math/bits.overflowError"], apart := false }
def InterpLentSaid : Prop := interpLentRow.holds Tryz.pinned (OpenSpec.ofChange interpLentSpec)

/-- ITS FALSE NEIGHBOUR: 'it returns false'. Refute it at one input. -/
def interpLentWrong : ChangeSpec := { name := "interpLent", fn := fun _ => fun
  | [d1, d2, d3] => { results := [.lit (.bool false)], args := [d1, d2, d3] }
  | _ => none }
def InterpLentWrongFalsely : Prop := interpLentRow.holds Tryz.pinned (OpenSpec.ofChange interpLentWrong)

/- THE SECOND FORM. 'bulk': how many values and letters a reading holds, each counted each time it is reached (what is shared counts as often as it is met; a slice's spare places count too). A statement '..UptoSaid' is the law's where the arguments, and the package variables that the reading takes, are together of bulk at most 1048576: NARROWER than '..Said'. Prove '..Said' where nothing that the law and all that it calls make is longer than what came in: it says more and counts as full. Else prove '..UptoSaid'. A law counts once. -/
mutual
def uptoBulk {H : Type} : DataW H → Nat
  | .lit (.string bytes) => bytes.length + 1
  | .lit _ => 1
  | .nil => 1
  | .ptr d => uptoBulk d + 1
  | .slice elems spare => uptoBulkAll elems + uptoBulkAll spare + 1
  | .agg parts => uptoBulkAll parts + 1
  | .iface _ d => uptoBulk d + 1
  | .map entries => uptoBulkEntries entries + 1
  | .held _ => 1
def uptoBulkAll {H : Type} : List (DataW H) → Nat
  | [] => 0
  | d :: r => uptoBulk d + uptoBulkAll r
def uptoBulkEntries {H : Type} : List (Lit × DataW H) → Nat
  | [] => 0
  | x :: r => uptoBulkEntry x + uptoBulkEntries r
def uptoBulkEntry {H : Type} : Lit × DataW H → Nat
  | (.string bytes, d) => bytes.length + uptoBulk d + 1
  | (_, d) => uptoBulk d + 1
 end
def uptoSmall : (H : Type) → List (DataW H) → Bool := fun _ ds => decide (uptoBulkAll ds ≤ 1048576)
def OpenSpec.upto (s : _root_.Go.ChangeSpec) : _root_.Go.OpenSpec := { _root_.Go.OpenSpec.ofChange s with cond := some uptoSmall }

/-- 'tenorlaw10.InterpAt', WHERE WHAT IT READS IS OF BULK AT MOST 1048576: true; the input reads as it did. -/
def interpAtUptoRow : OpenClaim := { program := "ytmmcnjoeepgpgaagreat", sum := "6b12387b4f85a4ca9e3a2be31ff597b4c3d5fb1cce87f10272353109aa680478", func := "tenor/tenorlaw10.InterpAt", spec := "interpAt", inPlace := ["math.Float64bits", "math/bits.Sub64", "math/bits.Add64", "math.Float64frombits", "math.archFloor", "math.archTrunc"], unfollowed := true, recurses := true, named := ["math/bits.divideError", "math/bits.overflowError"], apart := false, narrowed := true }
def InterpAtUptoSaid : Prop := interpAtUptoRow.holds Tryz.pinned (OpenSpec.upto interpAtSpec)

/-- 'tenorlaw10.InterpSlopes', WHERE WHAT IT READS IS OF BULK AT MOST 1048576: true; the input reads as it did. -/
def interpSlopesUptoRow : OpenClaim := { program := "ytmmcnjoeepgpgaagreat", sum := "6b12387b4f85a4ca9e3a2be31ff597b4c3d5fb1cce87f10272353109aa680478", func := "tenor/tenorlaw10.InterpSlopes", spec := "interpSlopes", inPlace := ["math.Float64bits", "math/bits.Sub64", "math/bits.Add64", "math.Float64frombits", "math.archFloor", "math.archTrunc"], unfollowed := true, recurses := true, named := ["math/bits.divideError", "math/bits.overflowError"], apart := false, narrowed := true }
def InterpSlopesUptoSaid : Prop := interpSlopesUptoRow.holds Tryz.pinned (OpenSpec.upto interpSlopesSpec)

/-- 'tenorlaw10.InterpLent', WHERE WHAT IT READS IS OF BULK AT MOST 1048576: true; the input reads as it did. -/
def interpLentUptoRow : OpenClaim := { program := "ytmmcnjoeepgpgaagreat", sum := "6b12387b4f85a4ca9e3a2be31ff597b4c3d5fb1cce87f10272353109aa680478", func := "tenor/tenorlaw10.InterpLent", spec := "interpLent", inPlace := ["math.Float64bits", "math/bits.Sub64", "math/bits.Add64", "math.Float64frombits", "math.archFloor", "math.archTrunc"], unfollowed := true, recurses := true, named := ["math/bits.divideError", "math/bits.overflowError"], apart := false, narrowed := true }
def InterpLentUptoSaid : Prop := interpLentUptoRow.holds Tryz.pinned (OpenSpec.upto interpLentSpec)

end Rows
end Go.Proofs.YtmmcnjoeepgpgaaGreat

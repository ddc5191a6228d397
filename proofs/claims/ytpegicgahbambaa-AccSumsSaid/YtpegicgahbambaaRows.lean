/-
  No cell of these rows narrows 'for every input' (looked for: loops, veiled, ifaces, maps, wideKeys, modest, calm, conditions, laid).
  DERIVED. THE GIVEN ROWS OF THIS SEAT. 10 by the template 'for every input the law returns true; each argument reads behind the call as it read before'; 0 by the template 'total and deterministic' (their statements: YtpegicgahbambaaTotals.lean).
  GIVEN WITH THE SEED: the statements are not yours to turn. If you find one false, say at which input.
  Laid BY PROGRAM, IN A SANDBOX (cutbox-rows.mjs): the forced cells as the released guide's own fill.sh prints them over the translation 44a1e5addaa65bc3… (all of the seat's roots in one cut). By AI agents, Wed Nov 11 2026. No macro, syntax, notation, axiom, sorry.
-/
import Derived.Test.YtpegicgahbambaaChecked
import GoSem.Claim
import GoSem.ClaimJoined
import GoSem.ClaimMapViews
import Derived.JoinedTies
import Derived.KernelRfl
namespace Go.Proofs.Ytpegicgahbambaa
/- THE CELL 'sum', in the pinned program and in every row, IS THE sha256 OF THE DUMP (.gsa) THAT YtpegicgahbambaaProg.lean LOADS. Nothing in Lean hashes anything: it is a label: what it is worth is what the hold of that sum in a sandbox is worth. -/
noncomputable def Try.pinned : Pinned := { name := "ytpegicgahbambaa", sum := "44a1e5addaa65bc3fda6ec48b94bb99ead6688fba61dec5b650ee86114c239f9", checked := Try.checked }
namespace Rows
def none {H : Type} : Left H := { results := [], args := [] }

/-- 'tenorlaw9.RateFactors': WHATEVER THE INPUT: true; the input reads as it did. -/
def rateFactorsSpec : ChangeSpec := { name := "rateFactors", fn := fun _ => fun
  | [d1, d2, d3] => { results := [.lit (.bool true)], args := [d1, d2, d3] }
  | _ => none }
def rateFactorsRow : OpenClaim := { program := "ytpegicgahbambaa", sum := "44a1e5addaa65bc3fda6ec48b94bb99ead6688fba61dec5b650ee86114c239f9", func := "tenor/tenorlaw9.RateFactors", spec := "rateFactors", inPlace := ["math.Float64frombits", "math.Float64bits", "math.archFloor", "math.archTrunc"], unfollowed := true, recurses := true, apart := false }
def RateFactorsSaid : Prop := rateFactorsRow.holds Try.pinned (OpenSpec.ofChange rateFactorsSpec)

/-- ITS FALSE NEIGHBOUR: 'it returns false'. Refute it at one input. -/
def rateFactorsWrong : ChangeSpec := { name := "rateFactors", fn := fun _ => fun
  | [d1, d2, d3] => { results := [.lit (.bool false)], args := [d1, d2, d3] }
  | _ => none }
def RateFactorsWrongFalsely : Prop := rateFactorsRow.holds Try.pinned (OpenSpec.ofChange rateFactorsWrong)

/-- 'tenorlaw9.RateYields': WHATEVER THE INPUT: true; the input reads as it did. -/
def rateYieldsSpec : ChangeSpec := { name := "rateYields", fn := fun _ => fun
  | [d1, d2, d3] => { results := [.lit (.bool true)], args := [d1, d2, d3] }
  | _ => none }
def rateYieldsRow : OpenClaim := { program := "ytpegicgahbambaa", sum := "44a1e5addaa65bc3fda6ec48b94bb99ead6688fba61dec5b650ee86114c239f9", func := "tenor/tenorlaw9.RateYields", spec := "rateYields", inPlace := ["math.Float64frombits", "math.Float64bits", "math.archFloor", "math.archTrunc"], unfollowed := true, recurses := true, apart := false }
def RateYieldsSaid : Prop := rateYieldsRow.holds Try.pinned (OpenSpec.ofChange rateYieldsSpec)

/-- ITS FALSE NEIGHBOUR: 'it returns false'. Refute it at one input. -/
def rateYieldsWrong : ChangeSpec := { name := "rateYields", fn := fun _ => fun
  | [d1, d2, d3] => { results := [.lit (.bool false)], args := [d1, d2, d3] }
  | _ => none }
def RateYieldsWrongFalsely : Prop := rateYieldsRow.holds Try.pinned (OpenSpec.ofChange rateYieldsWrong)

/-- 'tenorlaw9.RateOnes': WHATEVER THE INPUT: true; the input reads as it did. -/
def rateOnesSpec : ChangeSpec := { name := "rateOnes", fn := fun _ => fun
  | [d1, d2, d3] => { results := [.lit (.bool true)], args := [d1, d2, d3] }
  | _ => none }
def rateOnesRow : OpenClaim := { program := "ytpegicgahbambaa", sum := "44a1e5addaa65bc3fda6ec48b94bb99ead6688fba61dec5b650ee86114c239f9", func := "tenor/tenorlaw9.RateOnes", spec := "rateOnes", inPlace := ["math.Float64frombits", "math.Float64bits", "math.archFloor", "math.archTrunc"], unfollowed := true, recurses := true, apart := false }
def RateOnesSaid : Prop := rateOnesRow.holds Try.pinned (OpenSpec.ofChange rateOnesSpec)

/-- ITS FALSE NEIGHBOUR: 'it returns false'. Refute it at one input. -/
def rateOnesWrong : ChangeSpec := { name := "rateOnes", fn := fun _ => fun
  | [d1, d2, d3] => { results := [.lit (.bool false)], args := [d1, d2, d3] }
  | _ => none }
def RateOnesWrongFalsely : Prop := rateOnesRow.holds Try.pinned (OpenSpec.ofChange rateOnesWrong)

/-- 'tenorlaw9.RateFalls': WHATEVER THE INPUT: true; the input reads as it did. -/
def rateFallsSpec : ChangeSpec := { name := "rateFalls", fn := fun _ => fun
  | [d1, d2, d3, d4] => { results := [.lit (.bool true)], args := [d1, d2, d3, d4] }
  | _ => none }
def rateFallsRow : OpenClaim := { program := "ytpegicgahbambaa", sum := "44a1e5addaa65bc3fda6ec48b94bb99ead6688fba61dec5b650ee86114c239f9", func := "tenor/tenorlaw9.RateFalls", spec := "rateFalls", inPlace := ["math.Float64frombits", "math.Float64bits", "math.archFloor", "math.archTrunc"], unfollowed := true, recurses := true, apart := false }
def RateFallsSaid : Prop := rateFallsRow.holds Try.pinned (OpenSpec.ofChange rateFallsSpec)

/-- ITS FALSE NEIGHBOUR: 'it returns false'. Refute it at one input. -/
def rateFallsWrong : ChangeSpec := { name := "rateFalls", fn := fun _ => fun
  | [d1, d2, d3, d4] => { results := [.lit (.bool false)], args := [d1, d2, d3, d4] }
  | _ => none }
def RateFallsWrongFalsely : Prop := rateFallsRow.holds Try.pinned (OpenSpec.ofChange rateFallsWrong)

/-- 'tenorlaw3.AccSums': WHATEVER THE INPUT: true; the input reads as it did. -/
def accSumsSpec : ChangeSpec := { name := "accSums", fn := fun _ => fun
  | [d1, d2] => { results := [.lit (.bool true)], args := [d1, d2] }
  | _ => none }
def accSumsRow : OpenClaim := { program := "ytpegicgahbambaa", sum := "44a1e5addaa65bc3fda6ec48b94bb99ead6688fba61dec5b650ee86114c239f9", func := "tenor/tenorlaw3.AccSums", spec := "accSums", inPlace := ["math.Float64bits", "math/bits.Sub64", "math/bits.Add64", "math.Float64frombits"], recurses := true, named := ["math/bits.divideError", "math/bits.overflowError"], apart := false }
def AccSumsSaid : Prop := accSumsRow.holds Try.pinned (OpenSpec.ofChange accSumsSpec)

/-- ITS FALSE NEIGHBOUR: 'it returns false'. Refute it at one input. -/
def accSumsWrong : ChangeSpec := { name := "accSums", fn := fun _ => fun
  | [d1, d2] => { results := [.lit (.bool false)], args := [d1, d2] }
  | _ => none }
def AccSumsWrongFalsely : Prop := accSumsRow.holds Try.pinned (OpenSpec.ofChange accSumsWrong)

/-- 'tenorlaw3.AccWhole': WHATEVER THE INPUT: true; the input reads as it did. -/
def accWholeSpec : ChangeSpec := { name := "accWhole", fn := fun _ => fun
  | [d] => { results := [.lit (.bool true)], args := [d] }
  | _ => none }
def accWholeRow : OpenClaim := { program := "ytpegicgahbambaa", sum := "44a1e5addaa65bc3fda6ec48b94bb99ead6688fba61dec5b650ee86114c239f9", func := "tenor/tenorlaw3.AccWhole", spec := "accWhole", inPlace := ["math.Float64bits", "math.Float64frombits", "math/bits.Sub64", "math/bits.Add64"], recurses := true, named := ["math/bits.divideError", "math/bits.overflowError"], apart := false }
def AccWholeSaid : Prop := accWholeRow.holds Try.pinned (OpenSpec.ofChange accWholeSpec)

/-- ITS FALSE NEIGHBOUR: 'it returns false'. Refute it at one input. -/
def accWholeWrong : ChangeSpec := { name := "accWhole", fn := fun _ => fun
  | [d] => { results := [.lit (.bool false)], args := [d] }
  | _ => none }
def AccWholeWrongFalsely : Prop := accWholeRow.holds Try.pinned (OpenSpec.ofChange accWholeWrong)

/-- 'tenorlaw3.AccOrder': WHATEVER THE INPUT: true; the input reads as it did. -/
def accOrderSpec : ChangeSpec := { name := "accOrder", fn := fun _ => fun
  | [d1, d2, d3] => { results := [.lit (.bool true)], args := [d1, d2, d3] }
  | _ => none }
def accOrderRow : OpenClaim := { program := "ytpegicgahbambaa", sum := "44a1e5addaa65bc3fda6ec48b94bb99ead6688fba61dec5b650ee86114c239f9", func := "tenor/tenorlaw3.AccOrder", spec := "accOrder", inPlace := ["math.Float64bits", "math/bits.Sub64", "math/bits.Add64", "math.Float64frombits"], recurses := true, named := ["math/bits.divideError", "math/bits.overflowError"], apart := false }
def AccOrderSaid : Prop := accOrderRow.holds Try.pinned (OpenSpec.ofChange accOrderSpec)

/-- ITS FALSE NEIGHBOUR: 'it returns false'. Refute it at one input. -/
def accOrderWrong : ChangeSpec := { name := "accOrder", fn := fun _ => fun
  | [d1, d2, d3] => { results := [.lit (.bool false)], args := [d1, d2, d3] }
  | _ => none }
def AccOrderWrongFalsely : Prop := accOrderRow.holds Try.pinned (OpenSpec.ofChange accOrderWrong)

/-- 'tenorlaw3.AccNear': WHATEVER THE INPUT: true; the input reads as it did. -/
def accNearSpec : ChangeSpec := { name := "accNear", fn := fun _ => fun
  | [d] => { results := [.lit (.bool true)], args := [d] }
  | _ => none }
def accNearRow : OpenClaim := { program := "ytpegicgahbambaa", sum := "44a1e5addaa65bc3fda6ec48b94bb99ead6688fba61dec5b650ee86114c239f9", func := "tenor/tenorlaw3.AccNear", spec := "accNear", inPlace := ["math.Float64bits", "math/bits.Sub64", "math/bits.Add64", "math.Float64frombits"], recurses := true, named := ["math/bits.divideError", "math/bits.overflowError"], apart := false }
def AccNearSaid : Prop := accNearRow.holds Try.pinned (OpenSpec.ofChange accNearSpec)

/-- ITS FALSE NEIGHBOUR: 'it returns false'. Refute it at one input. -/
def accNearWrong : ChangeSpec := { name := "accNear", fn := fun _ => fun
  | [d] => { results := [.lit (.bool false)], args := [d] }
  | _ => none }
def AccNearWrongFalsely : Prop := accNearRow.holds Try.pinned (OpenSpec.ofChange accNearWrong)

/-- 'tenorlaw3.AccPlays': WHATEVER THE INPUT: true; the input reads as it did. -/
def accPlaysSpec : ChangeSpec := { name := "accPlays", fn := fun _ => fun
  | [d] => { results := [.lit (.bool true)], args := [d] }
  | _ => none }
def accPlaysRow : OpenClaim := { program := "ytpegicgahbambaa", sum := "44a1e5addaa65bc3fda6ec48b94bb99ead6688fba61dec5b650ee86114c239f9", func := "tenor/tenorlaw3.AccPlays", spec := "accPlays", inPlace := ["math.Float64bits", "math/bits.Sub64", "math/bits.Add64", "math.Float64frombits"], recurses := true, named := ["math/bits.divideError", "math/bits.overflowError"], apart := false }
def AccPlaysSaid : Prop := accPlaysRow.holds Try.pinned (OpenSpec.ofChange accPlaysSpec)

/-- ITS FALSE NEIGHBOUR: 'it returns false'. Refute it at one input. -/
def accPlaysWrong : ChangeSpec := { name := "accPlays", fn := fun _ => fun
  | [d] => { results := [.lit (.bool false)], args := [d] }
  | _ => none }
def AccPlaysWrongFalsely : Prop := accPlaysRow.holds Try.pinned (OpenSpec.ofChange accPlaysWrong)

/-- 'tenorlaw3.AccGone': WHATEVER THE INPUT: true; the input reads as it did. -/
def accGoneSpec : ChangeSpec := { name := "accGone", fn := fun _ => fun
  | [d1, d2] => { results := [.lit (.bool true)], args := [d1, d2] }
  | _ => none }
def accGoneRow : OpenClaim := { program := "ytpegicgahbambaa", sum := "44a1e5addaa65bc3fda6ec48b94bb99ead6688fba61dec5b650ee86114c239f9", func := "tenor/tenorlaw3.AccGone", spec := "accGone", inPlace := ["math.Float64bits", "math/bits.Sub64", "math/bits.Add64", "math.Float64frombits"], recurses := true, named := ["math/bits.divideError", "math/bits.overflowError"], apart := false }
def AccGoneSaid : Prop := accGoneRow.holds Try.pinned (OpenSpec.ofChange accGoneSpec)

/-- ITS FALSE NEIGHBOUR: 'it returns false'. Refute it at one input. -/
def accGoneWrong : ChangeSpec := { name := "accGone", fn := fun _ => fun
  | [d1, d2] => { results := [.lit (.bool false)], args := [d1, d2] }
  | _ => none }
def AccGoneWrongFalsely : Prop := accGoneRow.holds Try.pinned (OpenSpec.ofChange accGoneWrong)

/- THE SECOND FORM. 'bulk': how many values and letters a reading holds, each counted each time it is reached (what is shared counts as often as it is met; a slice's spare places count too). A statement '..UptoSaid' is the law's where the arguments, and the package variables that the reading takes, are together of bulk at most 1048576: NARROWER than '..Said'. Prove '..Said' where nothing that the law and all that it calls make is longer than what came in: it says more and counts as full. Else prove '..UptoSaid'. A law counts once. -/
mutual
def uptoBulk {H : Type} : DataW H → Nat
  | .lit (.string bytes) => bytes.length + 1
  | .lit _ => 1
  | .nil => 1
  | .ptr d => uptoBulk d + 1
  | .slice elems spare => uptoBulkAll elems + uptoBulkAll spare + 1
  | .agg parts => uptoBulkAll parts + 1
  | .iface _ d => uptoBulk d + 1
  | .map entries => uptoBulkEntries entries + 1
  | .held _ => 1
def uptoBulkAll {H : Type} : List (DataW H) → Nat
  | [] => 0
  | d :: r => uptoBulk d + uptoBulkAll r
def uptoBulkEntries {H : Type} : List (Lit × DataW H) → Nat
  | [] => 0
  | x :: r => uptoBulkEntry x + uptoBulkEntries r
def uptoBulkEntry {H : Type} : Lit × DataW H → Nat
  | (.string bytes, d) => bytes.length + uptoBulk d + 1
  | (_, d) => uptoBulk d + 1
 end
def uptoSmall : (H : Type) → List (DataW H) → Bool := fun _ ds => decide (uptoBulkAll ds ≤ 1048576)
def OpenSpec.upto (s : _root_.Go.ChangeSpec) : _root_.Go.OpenSpec := { _root_.Go.OpenSpec.ofChange s with cond := some uptoSmall }

/-- 'tenorlaw9.RateFactors', WHERE WHAT IT READS IS OF BULK AT MOST 1048576: true; the input reads as it did. -/
def rateFactorsUptoRow : OpenClaim := { program := "ytpegicgahbambaa", sum := "44a1e5addaa65bc3fda6ec48b94bb99ead6688fba61dec5b650ee86114c239f9", func := "tenor/tenorlaw9.RateFactors", spec := "rateFactors", inPlace := ["math.Float64frombits", "math.Float64bits", "math.archFloor", "math.archTrunc"], unfollowed := true, recurses := true, apart := false, narrowed := true }
def RateFactorsUptoSaid : Prop := rateFactorsUptoRow.holds Try.pinned (OpenSpec.upto rateFactorsSpec)

/-- 'tenorlaw9.RateYields', WHERE WHAT IT READS IS OF BULK AT MOST 1048576: true; the input reads as it did. -/
def rateYieldsUptoRow : OpenClaim := { program := "ytpegicgahbambaa", sum := "44a1e5addaa65bc3fda6ec48b94bb99ead6688fba61dec5b650ee86114c239f9", func := "tenor/tenorlaw9.RateYields", spec := "rateYields", inPlace := ["math.Float64frombits", "math.Float64bits", "math.archFloor", "math.archTrunc"], unfollowed := true, recurses := true, apart := false, narrowed := true }
def RateYieldsUptoSaid : Prop := rateYieldsUptoRow.holds Try.pinned (OpenSpec.upto rateYieldsSpec)

/-- 'tenorlaw9.RateOnes', WHERE WHAT IT READS IS OF BULK AT MOST 1048576: true; the input reads as it did. -/
def rateOnesUptoRow : OpenClaim := { program := "ytpegicgahbambaa", sum := "44a1e5addaa65bc3fda6ec48b94bb99ead6688fba61dec5b650ee86114c239f9", func := "tenor/tenorlaw9.RateOnes", spec := "rateOnes", inPlace := ["math.Float64frombits", "math.Float64bits", "math.archFloor", "math.archTrunc"], unfollowed := true, recurses := true, apart := false, narrowed := true }
def RateOnesUptoSaid : Prop := rateOnesUptoRow.holds Try.pinned (OpenSpec.upto rateOnesSpec)

/-- 'tenorlaw9.RateFalls', WHERE WHAT IT READS IS OF BULK AT MOST 1048576: true; the input reads as it did. -/
def rateFallsUptoRow : OpenClaim := { program := "ytpegicgahbambaa", sum := "44a1e5addaa65bc3fda6ec48b94bb99ead6688fba61dec5b650ee86114c239f9", func := "tenor/tenorlaw9.RateFalls", spec := "rateFalls", inPlace := ["math.Float64frombits", "math.Float64bits", "math.archFloor", "math.archTrunc"], unfollowed := true, recurses := true, apart := false, narrowed := true }
def RateFallsUptoSaid : Prop := rateFallsUptoRow.holds Try.pinned (OpenSpec.upto rateFallsSpec)

/-- 'tenorlaw3.AccSums', WHERE WHAT IT READS IS OF BULK AT MOST 1048576: true; the input reads as it did. -/
def accSumsUptoRow : OpenClaim := { program := "ytpegicgahbambaa", sum := "44a1e5addaa65bc3fda6ec48b94bb99ead6688fba61dec5b650ee86114c239f9", func := "tenor/tenorlaw3.AccSums", spec := "accSums", inPlace := ["math.Float64bits", "math/bits.Sub64", "math/bits.Add64", "math.Float64frombits"], recurses := true, named := ["math/bits.divideError", "math/bits.overflowError"], apart := false, narrowed := true }
def AccSumsUptoSaid : Prop := accSumsUptoRow.holds Try.pinned (OpenSpec.upto accSumsSpec)

/-- 'tenorlaw3.AccWhole', WHERE WHAT IT READS IS OF BULK AT MOST 1048576: true; the input reads as it did. -/
def accWholeUptoRow : OpenClaim := { program := "ytpegicgahbambaa", sum := "44a1e5addaa65bc3fda6ec48b94bb99ead6688fba61dec5b650ee86114c239f9", func := "tenor/tenorlaw3.AccWhole", spec := "accWhole", inPlace := ["math.Float64bits", "math.Float64frombits", "math/bits.Sub64", "math/bits.Add64"], recurses := true, named := ["math/bits.divideError", "math/bits.overflowError"], apart := false, narrowed := true }
def AccWholeUptoSaid : Prop := accWholeUptoRow.holds Try.pinned (OpenSpec.upto accWholeSpec)

/-- 'tenorlaw3.AccOrder', WHERE WHAT IT READS IS OF BULK AT MOST 1048576: true; the input reads as it did. -/
def accOrderUptoRow : OpenClaim := { program := "ytpegicgahbambaa", sum := "44a1e5addaa65bc3fda6ec48b94bb99ead6688fba61dec5b650ee86114c239f9", func := "tenor/tenorlaw3.AccOrder", spec := "accOrder", inPlace := ["math.Float64bits", "math/bits.Sub64", "math/bits.Add64", "math.Float64frombits"], recurses := true, named := ["math/bits.divideError", "math/bits.overflowError"], apart := false, narrowed := true }
def AccOrderUptoSaid : Prop := accOrderUptoRow.holds Try.pinned (OpenSpec.upto accOrderSpec)

/-- 'tenorlaw3.AccNear', WHERE WHAT IT READS IS OF BULK AT MOST 1048576: true; the input reads as it did. -/
def accNearUptoRow : OpenClaim := { program := "ytpegicgahbambaa", sum := "44a1e5addaa65bc3fda6ec48b94bb99ead6688fba61dec5b650ee86114c239f9", func := "tenor/tenorlaw3.AccNear", spec := "accNear", inPlace := ["math.Float64bits", "math/bits.Sub64", "math/bits.Add64", "math.Float64frombits"], recurses := true, named := ["math/bits.divideError", "math/bits.overflowError"], apart := false, narrowed := true }
def AccNearUptoSaid : Prop := accNearUptoRow.holds Try.pinned (OpenSpec.upto accNearSpec)

/-- 'tenorlaw3.AccPlays', WHERE WHAT IT READS IS OF BULK AT MOST 1048576: true; the input reads as it did. -/
def accPlaysUptoRow : OpenClaim := { program := "ytpegicgahbambaa", sum := "44a1e5addaa65bc3fda6ec48b94bb99ead6688fba61dec5b650ee86114c239f9", func := "tenor/tenorlaw3.AccPlays", spec := "accPlays", inPlace := ["math.Float64bits", "math/bits.Sub64", "math/bits.Add64", "math.Float64frombits"], recurses := true, named := ["math/bits.divideError", "math/bits.overflowError"], apart := false, narrowed := true }
def AccPlaysUptoSaid : Prop := accPlaysUptoRow.holds Try.pinned (OpenSpec.upto accPlaysSpec)

/-- 'tenorlaw3.AccGone', WHERE WHAT IT READS IS OF BULK AT MOST 1048576: true; the input reads as it did. -/
def accGoneUptoRow : OpenClaim := { program := "ytpegicgahbambaa", sum := "44a1e5addaa65bc3fda6ec48b94bb99ead6688fba61dec5b650ee86114c239f9", func := "tenor/tenorlaw3.AccGone", spec := "accGone", inPlace := ["math.Float64bits", "math/bits.Sub64", "math/bits.Add64", "math.Float64frombits"], recurses := true, named := ["math/bits.divideError", "math/bits.overflowError"], apart := false, narrowed := true }
def AccGoneUptoSaid : Prop := accGoneUptoRow.holds Try.pinned (OpenSpec.upto accGoneSpec)

end Rows
end Go.Proofs.Ytpegicgahbambaa

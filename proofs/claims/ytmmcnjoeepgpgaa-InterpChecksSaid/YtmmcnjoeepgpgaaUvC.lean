/- A table's lists in the reference's memory. -/
import Derived.Test.YtmmcnjoeepgpgaaUqC
import Derived.Test.YtmmcnjoeepgpgaaM11
namespace Go.Proofs.Ytmmcnjoeepgpgaa
open Go.RowKit

/-- A table's lists in the reference's memory. -/
structure TblR (w : World) (ax : Option Addr) (X : List Int) (au : Option Addr) (Y : List Nat) : Prop where
  ix : Ins w ax X
  uy : Us w au Y
theorem TblR.belowK {w w' : World} {ax : Option Addr} {X : List Int} {au : Option Addr} {Y : List Nat} (h : TblR w ax X au Y) (hb : Below w.heap.size w w') : TblR w' ax X au Y := ⟨h.ix.belowK hb, h.uy.below hb⟩
theorem TblR.drew {w : World} {ax : Option Addr} {X : List Int} {au : Option Addr} {Y : List Nat} (h : TblR w ax X au Y) : TblR w.drew ax X au Y := h.belowK (Below.refl _ _).drew
theorem BoxR.drew {w : World} {b : Nat} {kind : Int} {ax : Option Addr} {nx cx : Nat} {ay : Option Addr} {ny cy : Nat} (h : BoxR w b kind ax nx cx ay ny cy) : BoxR w.drew b kind ax nx cx ay ny cy := h

end Go.Proofs.Ytmmcnjoeepgpgaa

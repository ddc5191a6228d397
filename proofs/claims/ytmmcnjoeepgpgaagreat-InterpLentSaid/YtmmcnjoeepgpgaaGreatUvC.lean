/- A table's lists in the reference's memory. -/
import Derived.Test.YtmmcnjoeepgpgaaGreatUqC
import Derived.Test.YtmmcnjoeepgpgaaGreatM11
namespace Go.Proofs.YtmmcnjoeepgpgaaGreat
open Go.RowKit

/-- A table's lists in the reference's memory. -/
structure TblR (w : World) (ax : Option Addr) (X : List Int) (au : Option Addr) (Y : List Nat) : Prop where
  ix : Ins w ax X
  ux : Y.length ≤ 1000000000 → Us w au Y
  lx : Y.length ≤ 9223372036854775807
theorem TblR.belowK {w w' : World} {ax : Option Addr} {X : List Int} {au : Option Addr} {Y : List Nat} (h : TblR w ax X au Y) (hb : Below w.heap.size w w') : TblR w' ax X au Y := ⟨h.ix.belowK hb, fun hl => (h.ux hl).below hb, h.lx⟩
theorem TblR.uy {w : World} {ax : Option Addr} {X : List Int} {au : Option Addr} {Y : List Nat} (h : TblR w ax X au Y) (hl : Y.length ≤ 256) : Us w au Y := h.ux (by omega)
theorem chk_le {kind : Int} {X : List Int} {Y : List Nat} (h : chkT kind X Y = 0) : Y.length ≤ 256 := by
  cases hk : knB kind
  · rw [chk_kind hk] at h; cases h
  cases hl : lnB X Y
  · rw [chk_len hk hl] at h; cases h
  unfold lnB at hl
  simp at hl
  omega
theorem TblR.drew {w : World} {ax : Option Addr} {X : List Int} {au : Option Addr} {Y : List Nat} (h : TblR w ax X au Y) : TblR w.drew ax X au Y := h.belowK (Below.refl _ _).drew
theorem BoxR.drew {w : World} {b : Nat} {kind : Int} {ax : Option Addr} {nx cx : Nat} {ay : Option Addr} {ny cy : Nat} (h : BoxR w b kind ax nx cx ay ny cy) : BoxR w.drew b kind ax nx cx ay ny cy := h

end Go.Proofs.YtmmcnjoeepgpgaaGreat

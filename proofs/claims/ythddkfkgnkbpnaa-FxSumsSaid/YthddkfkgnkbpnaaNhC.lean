/- The reference's Sum. -/
import Derived.Test.YthddkfkgnkbpnaaM21
namespace Go.Proofs.Ythddkfkgnkbpnaa
open Go.RowKit
set_option linter.unusedSimpArgs false
set_option linter.unusedVariables false

theorem set_row {w : World} {b : Nat} {cs : Array Value} {t : TypeId} {r : Nat × Nat} (h : w.heap[b]? = some (.cells cs t r)) (i : Nat) (v : Value) : (w.setCell ⟨b, i, none⟩ v).heap[b]? = some (.cells (cs.setIfInBounds i v) t r) := by
  unfold World.setCell
  simp only [Array.getElem?_modify, h]
  simp
theorem Box3.stored {w : World} {b : Nat} {st : Int} {s : Bool} {a : Option Addr} {n c : Nat} {e : Int} (h : Box3 w b st s a n c e) (st' : Int) (s' : Bool) (a' : Option Addr) (n' c' : Nat) (e' : Int) :
    Box3 ((((w.setCell ⟨b, 0, none⟩ (.int .i64 st')).setCell ⟨b, 1, none⟩ (.bool s')).setCell ⟨b, 2, none⟩ (.slice a' n' c')).setCell ⟨b, 3, none⟩ (.int .i64 e')) b st' s' a' n' c' e' := by
  unfold Box3 at *
  have := set_row (set_row (set_row (set_row h 0 (.int .i64 st')) 1 (.bool s')) 2 (.slice a' n' c')) 3 (.int .i64 e')
  rw [this]
  rfl
theorem zero_box (w : World) : ∃ W, (w.alloc (.cells #[.int .i64 0, .bool false, .slice none 0 0, .int .i64 0] 52)) = W ∧ Box3 W w.heap.size 0 false none 0 0 0 ∧ Below w.heap.size w W := by
  refine ⟨_, rfl, ?_, ((Below.refl _ _).alloc (Nat.le_refl _) _)⟩
  unfold Box3 World.alloc; simp [Array.getElem?_push]

/-- The box holds the accumulator of a sum. -/
structure In3 (w : World) (b : Nat) (z : Int) (up dn : Bool) (st : Int) (s : Bool) (a : Option Addr) (d c : Nat) (e : Int) : Prop where
  box : Box3 w b st s a (nd d) c e
  st : st = stOf up dn
  r3 : R3 w s a d e z up dn
theorem In3.below {w w' : World} {b : Nat} {z : Int} {up dn : Bool} {st : Int} {s : Bool} {a : Option Addr} {d c : Nat} {e : Int} (h : In3 w b z up dn st s a d c e) (hb : Below w.heap.size w w') : In3 w' b z up dn st s a d c e := ⟨h.box.below hb, h.st, h.r3.below hb⟩
theorem In3.store {w : World} {b : Nat} {st : Int} {s : Bool} {a : Option Addr} {n c : Nat} {e : Int} (h : Box3 w b st s a n c e) {z : Int} {up dn : Bool} {s' : Bool} {a' : Option Addr} {d' : Nat} {e' : Int} (h' : R3 w s' a' d' e' z up dn) (c' : Nat) :
    In3 ((((w.setCell ⟨b, 0, none⟩ (.int .i64 (stOf up dn))).setCell ⟨b, 1, none⟩ (.bool s')).setCell ⟨b, 2, none⟩ (.slice a' (nd d') c')).setCell ⟨b, 3, none⟩ (.int .i64 e')) b z up dn (stOf up dn) s' a' d' c' e' :=
  ⟨h.stored _ _ _ _ _ _, rfl, ⟨h'.dg.stored4 h _ _ _ _, h'.sm, h'.lo, h'.hi, h'.val⟩⟩

end Go.Proofs.Ythddkfkgnkbpnaa

/- The walk of life's Pass. -/
import Derived.Test.YteikihidblcljaaZeC
import Derived.Deep.RegionHeld3
import Derived.StillTailTactics
namespace Go.Proofs.Yteikihidblcljaa
open Go.RowKit
set_option linter.unusedSimpArgs false
set_option linter.unusedVariables false

/-- All blocks but those of S are as they were. -/
structure Frm (S : Nat → Prop) (w w' : World) : Prop where
  bel : Below 0 w w'
  block : ∀ k, k < w.heap.size → ¬ S k → w'.heap[k]? = w.heap[k]?
theorem Frm.refl (S : Nat → Prop) (w : World) : Frm S w w := ⟨Below.refl _ _, fun _ _ _ => rfl⟩
theorem Frm.step {S : Nat → Prop} {w w1 w2 : World} (h : Frm S w w1) (hb : Below 0 w1 w2) (hk : ∀ k, k < w.heap.size → ¬ S k → w2.heap[k]? = w1.heap[k]?) : Frm S w w2 :=
  ⟨h.bel.trans hb, fun k h1 h2 => (hk k h1 h2).trans (h.block k h1 h2)⟩
theorem Frm.below {S : Nat → Prop} {w w1 w2 : World} (h : Frm S w w1) (hb : Below w1.heap.size w1 w2) : Frm S w w2 :=
  h.step (hb.mono (Nat.zero_le _)) fun k h1 _ => hb.block k (Nat.lt_of_lt_of_le h1 h.bel.size)
theorem Frm.only {S : Nat → Prop} {w w1 w2 : World} {b : Nat} (h : Frm S w w1) (ho : Only b w1 w2) (hb : S b) : Frm S w w2 :=
  h.step ⟨ho.os, ho.tape, ho.output, ho.size, fun k hk => by omega⟩ fun k h1 h2 => ho.block k (Nat.lt_of_lt_of_le h1 h.bel.size) fun e => h2 (e ▸ hb)
theorem Frm.set {S : Nat → Prop} {w w1 : World} {b : Nat} (h : Frm S w w1) (i : Nat) (v : Value) (hb : S b) : Frm S w (w1.setCell ⟨b, i, none⟩ v) :=
  h.only ((Only.refl b w1).setCell i v) hb
theorem Frm.grown {S : Nat → Prop} {w w1 w2 : World} {row : Option Nat} (h : Frm S w w1) (g : w1.grownBy w2 row) (hr : ∀ k, row = some k → S k ∨ w.heap.size ≤ k) : Frm S w w2 :=
  h.step ⟨g.os, g.tape, g.output, g.size, fun k hk => by omega⟩ fun k h1 h2 => g.block k (Nat.lt_of_lt_of_le h1 h.bel.size) fun e => by
    rcases hr k e.symm with h3 | h3
    · exact h2 h3
    · omega
theorem AccIs.same {w w' : World} {b : Nat} {z : Int} {up dn : Bool} (h : AccIs w b z up dn) (hb : w'.heap[b]? = w.heap[b]?) : AccIs w' b z up dn := World.rowIs.of_block h hb

/-- The blocks of a ledger. -/
def LdS (b ba g : Nat) (k : Nat) : Prop := k = b ∨ k = ba ∨ k = g
/-- The state of Pass' loop. -/
structure PsSt (w wr : World) (b ba g c : Nat) (L : List Fw) (z cur n : Int) (k : Nat) (ap : Option Addr) (cp : Nat) : Prop where
  row : PasR wr g c L n k
  acc : AccIs wr ba (z + paidZ (L.take k) n) false false
  pay : wr.ownsRow w.heap.size 74 3 (.slice ap (paidF (L.take k) n).length cp) (paidF (L.take k) n).length (flV (paidF (L.take k) n))
  box : LBox wr b ba (some ⟨g, 0, none⟩) L.length c cur n
  frm : Frm (LdS b ba g) w wr
structure PsNe (w : World) (b ba g : Nat) : Prop where
  n1 : ba ≠ b
  n2 : g ≠ b
  n3 : g ≠ ba
  l1 : b < w.heap.size
  l2 : ba < w.heap.size
  l3 : g < w.heap.size
theorem PsSt.below {w wr w2 : World} {b ba g c : Nat} {L : List Fw} {z cur n : Int} {k : Nat} {ap : Option Addr} {cp : Nat} (h : PsSt w wr b ba g c L z cur n k ap cp) (hb : Below wr.heap.size wr w2) : PsSt w w2 b ba g c L z cur n k ap cp :=
  ⟨h.row.same (hb.block g h.row.lt), h.acc.below hb, ownsRow_below h.pay hb, h.box.same (hb.block b h.box.lt), h.frm.below hb⟩
/-- A flow that stays: written in place. -/
theorem PsSt.stay {w wr w2 : World} {b ba g c : Nat} {L : List Fw} {z cur n : Int} {k : Nat} {ap : Option Addr} {cp : Nat} (h : PsSt w wr b ba g c L z cur n k ap cp) (ne : PsNe w b ba g) (hk : k < L.length) (hd : ¬ (L.getD k fw0).d < n) (hr : PasR w2 g c L n (k + 1)) (hg : wr.grownBy w2 (some g)) : PsSt w w2 b ba g c L z cur n (k + 1) ap cp ∧ (paidF (L.take (k + 1)) n).length = (paidF (L.take k) n).length := by
  have e1 := paidF_take L n k hk
  have e2 := paidZ_take L n k hk
  rw [if_neg hd] at e1 e2
  have hs := h.frm.bel.size
  have hB : ∀ j, j < wr.heap.size → j ≠ g → w2.heap[j]? = wr.heap[j]? := fun j h1 h2 => hg.block j h1 (fun e => h2 (by simpa using e))
  refine ⟨⟨hr, ?_, ?_, h.box.same (hB b h.box.lt (Ne.symm ne.n2)), h.frm.grown hg fun j e => Or.inl (Or.inr (Or.inr (by simpa using e.symm)))⟩, by rw [e1]⟩
  · rw [e2]; exact h.acc.same (hB ba h.acc.lt (Ne.symm ne.n3))
  · rw [e1]
    refine h.pay.kept hg ?_
    cases hv : (Value.slice ap (paidF (L.take k) n).length cp).ownBlock with
    | none => exact Or.inl rfl
    | some j =>
      have := (h.pay.lt j hv).1
      have := ne.l3
      exact Or.inr (by simp; omega)
/-- Behind the append of a flow that is paid. -/
structure PsMid (w w5 : World) (b ba g c : Nat) (L : List Fw) (z cur n : Int) (k : Nat) (ap : Option Addr) (cp : Nat) : Prop where
  row : PasR w5 g c L n (k + 1)
  acc : AccIs w5 ba (z + paidZ (L.take k) n) false false
  pay : w5.ownsRow w.heap.size 74 3 (.slice ap (paidF (L.take (k + 1)) n).length cp) (paidF (L.take (k + 1)) n).length (flV (paidF (L.take (k + 1)) n))
  box : LBox w5 b ba (some ⟨g, 0, none⟩) L.length c cur n
  frm : Frm (LdS b ba g) w w5
theorem PsSt.mid {w wr w5 : World} {b ba g c : Nat} {L : List Fw} {z cur n : Int} {k : Nat} {ap : Option Addr} {cp : Nat} (h : PsSt w wr b ba g c L z cur n k ap cp) (ne : PsNe w b ba g) (hk : k < L.length) (hd : (L.getD k fw0).d < n) (o : Obj) {v' : Value}
    (ho : w5.ownsRow w.heap.size 74 3 v' ((paidF (L.take k) n).length + 1) (flV (paidF (L.take k) n) ++ [.int .i64 (L.getD k fw0).d, .float .f64 (L.getD k fw0).x, .int .i64 (L.getD k fw0).c]))
    (hg : (wr.alloc o).grownBy w5 (Value.slice ap (paidF (L.take k) n).length cp).ownBlock) :
    ∃ a' cp', v' = .slice a' (paidF (L.take (k + 1)) n).length cp' ∧ PsMid w w5 b ba g c L z cur n k a' cp' := by
  have e1 := paidF_take L n k hk
  rw [if_pos hd] at e1
  have hl : (paidF (L.take (k + 1)) n).length = (paidF (L.take k) n).length + 1 := by rw [e1]; simp
  have hs := h.frm.bel.size
  have hb1 : Below w.heap.size wr w5 := ((Below.refl _ _).alloc hs o).grown hg (by simp; omega) fun g hg => (h.pay.lt g hg).1
  have hf : flV (paidF (L.take k) n) ++ [.int .i64 (L.getD k fw0).d, .float .f64 (L.getD k fw0).x, .int .i64 (L.getD k fw0).c] = flV (paidF (L.take (k + 1)) n) := by rw [e1, flV_snoc]
  rw [hf, ← hl] at ho
  rcases ho.2 with ⟨_, e2⟩ | ⟨g', cap, cur', rfl, _⟩
  · omega
  · exact ⟨some ⟨g', 0, none⟩, cap, rfl, (h.row.skip hk hd).1.same (hb1.block g ne.l3), h.acc.same (hb1.block ba ne.l2), ho, h.box.same (hb1.block b ne.l1), h.frm.step (hb1.mono (Nat.zero_le _)) fun j h1 _ => hb1.block j h1⟩
/-- Behind the sum. -/
theorem PsMid.next {w w5 w6 : World} {b ba g c : Nat} {L : List Fw} {z cur n : Int} {k : Nat} {ap : Option Addr} {cp : Nat} (h : PsMid w w5 b ba g c L z cur n k ap cp) (ne : PsNe w b ba g) (hk : k < L.length) (hd : (L.getD k fw0).d < n)
    (ha : AccIs w6 ba (z + paidZ (L.take k) n + aZ (L.getD k fw0).x) false false) (ho : Only ba w5 w6) : PsSt w w6 b ba g c L z cur n (k + 1) ap cp := by
  have e2 := paidZ_take L n k hk
  rw [if_pos hd] at e2
  have hs := h.frm.bel.size
  have hl2 := ne.l2
  refine ⟨h.row.same (ho.block g h.row.lt ne.n3), ?_, ?_, h.box.same (ho.block b h.box.lt (Ne.symm ne.n1)), h.frm.only ho (Or.inr (Or.inl rfl))⟩
  · rw [e2, ← Int.add_assoc]; exact ha
  · obtain ⟨p1, p2 | ⟨g', cap, cur', e, q1, q2, q3⟩⟩ := h.pay
    · exact ⟨p1, Or.inl p2⟩
    · exact ⟨p1, Or.inr ⟨g', cap, cur', e, q1, (ho.block g' (Array.getElem?_eq_some_iff.1 q2).1 (by omega)).trans q2, q3⟩⟩

end Go.Proofs.Yteikihidblcljaa

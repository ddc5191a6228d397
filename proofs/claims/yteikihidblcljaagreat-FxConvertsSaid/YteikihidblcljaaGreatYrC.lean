/- The walks of tenorlaw23's made and FxNews. -/
import Derived.Test.YteikihidblcljaaGreatM18
import Derived.Test.YteikihidblcljaaGreatM15
import Derived.Test.YteikihidblcljaaGreatM16
import Derived.RegionTactic
namespace Go.Proofs.YteikihidblcljaaGreat
open Go.RowKit
set_option linter.unusedSimpArgs false
set_option linter.unusedVariables false

theorem OwnTab.below {w w' : World} {base b : Nat} {L : List Pr} (h : OwnTab w base b L) (hb : Below w.heap.size w w') : OwnTab w' base b L := by
  obtain ⟨v, h1, h2⟩ := h.ex
  exact ⟨⟨v, h1.below hb, ownsRow_below h2 hb⟩, h.wf, h.rg, h.len⟩
theorem OwnTab.set0 {w : World} {base base' b c : Nat} {L : List Pr} (h : OwnTab w base b L) (hc : c < base) (hcb : c ≠ b) (hb : base' ≤ base) (u : Value) (n : Nat) : OwnTab ((w.setCell ⟨c, 0, none⟩ u).drewN n) base' b L := by
  obtain ⟨v, h1, h2⟩ := h.ex
  exact ⟨⟨v, (Below.heap_setCell w ⟨c, 0, none⟩ u b (by show b ≠ c; omega)).trans h1, (own_setU h2 hc u).mono hb⟩, h.wf, h.rg, h.len⟩
theorem PrsU.setT {w : World} {ad : Option Addr} {L : List Pr} {c : Nat} {v : Value} (h : PrsU w ad L) (t : TBoxU w c v) (hv : ∀ k i, v ≠ .int k i) (u : Value) (n : Nat) : PrsU ((w.setCell ⟨c, 0, none⟩ u).drewN n) ad L := by
  have key : ∀ b i k x, w.cell? ⟨b, i, none⟩ = some (.int k x) → (w.setCell ⟨c, 0, none⟩ u).cell? ⟨b, i, none⟩ = some (.int k x) := fun b i k x hc => by
    have hne : b ≠ c := fun e => by
      subst e
      unfold TBoxU at t
      simp only [World.cell?, t, Option.bind_some] at hc
      match i, hc with
      | 0, hc => simp at hc; exact hv _ _ hc
      | i + 1, hc => simp at hc
    refine (World.cell?_of_block (w := w) (a := ⟨b, i, none⟩) ?_).trans hc
    exact Below.heap_setCell w ⟨c, 0, none⟩ u b hne
  exact ⟨fun k hk => by
    obtain ⟨b, o, e, c1, c2, c3⟩ := h.cell k hk
    exact ⟨b, o, e, key _ _ _ _ c1, key _ _ _ _ c2, key _ _ _ _ c3⟩, h.wf, h.rg, h.len⟩
/-- It returns both tables. -/
def MadeRet (l : List Pr) (w : World) (e : Ending) (w' : World) : Prop :=
  (((newA l).1 = 0 ∧ ∃ b a c, e = .returned (.tuple #[.pointer (some ⟨b, 0, none⟩), .agg #[.slice a l.length c], .bool true]) ∧ OwnTab w' w.heap.size b l ∧ w.heap.size ≤ b ∧ PrsU w' a l) ∨ ((newA l).1 ≠ 0 ∧ e = .returned (.tuple #[.pointer none, .agg #[.slice none 0 0], .bool true]))) ∧ Below w.heap.size w w'
theorem tboxU1 (w : World) (v : Value) : ∃ W, (w.alloc (.cells #[v] 28)) = W ∧ TBoxU W w.heap.size v ∧ Below w.heap.size w W := by
  refine ⟨_, rfl, ?_, (Below.refl _ _).alloc (Nat.le_refl _) _⟩
  unfold TBoxU World.alloc; simp [Array.getElem?_push]

set_option maxHeartbeats 3200000 in
set_option maxRecDepth 100000 in
theorem made23_any (ad : Option Addr) (l : List Pr) (c : Nat) (w : World) (hl : Prs w ad l) (h60 : l.length ≤ 60) :
    Calls Tryz.prog 8 #[.slice ad l.length c] w (MadeRet l w) := by
  have HP := Hd.mk hl
  have H60 := Hd.mk h60
  have HNw := Hd.mk fun w' h => fxNew_any ad l c w' h
  have HOf := Hd.mk fun w' h => of23_any ad l c w' h h60
  have HRN := Hd.mk fun a c' w' h => rNew_any a l c' w' h
  unfold OfPr at HOf
  have HRet : Hd (∀ e w', ((((newA l).1 = 0 ∧ ∃ b a c, e = .returned (.tuple #[.pointer (some ⟨b, 0, none⟩), .agg #[.slice a l.length c], .bool true]) ∧ OwnTab w' w.heap.size b l ∧ w.heap.size ≤ b ∧ PrsU w' a l) ∨ ((newA l).1 ≠ 0 ∧ e = .returned (.tuple #[.pointer none, .agg #[.slice none 0 0], .bool true]))) ∧ Below w.heap.size w w') → MadeRet l w e w') := ⟨fun e w' h => h⟩
  generalize hn : l.length = n at *
  have HN := Hd.mk hn
  obtain ⟨W, hW, t0, b0⟩ := tboxU1 w (.slice none 0 0)
  have HW := Hd.mk hW
  have T0 := Hd.mk t0
  have B0 := Hd.mk b0
  clear hl h60 hn hW t0 b0
  go_enter Tryz.func8, Tryz.ntmps8
  go_upto_region 1 with fail
  rw [HW.out]
  go_wp2_with fail
  refine (HNw.out _ (HP.out.below B0.out)).mono ?_
  rintro e w1 ⟨⟨hz, b, rfl, hb1, ht⟩ | ⟨hz, rfl⟩, hb⟩
  · have HT1 := Hd.mk ht
    have HZ := Hd.mk hz
    have T1 := Hd.mk (T0.out.below hb)
    have HBb : Hd (w.heap.size ≤ b) := ⟨by have := B0.out.size; omega⟩
    have HBb2 : Hd (W.heap.size ≤ b) := ⟨hb1⟩
    have HWs : Hd (w.heap.size ≤ W.heap.size) := ⟨B0.out.size⟩
    have B1 := Hd.mk (B0.out.trans (hb.mono B0.out.size))
    clear hz hb1 ht hb
    go_wp2_with fail
    refine (HOf.out _ (HP.out.below B1.out)).mono ?_; rintro e w2 ⟨a2, c2, rfl, hu, hb⟩
    have HU := Hd.mk hu
    have T2 := Hd.mk (T1.out.below hb)
    have HT2 := Hd.mk (HT1.out.below hb)
    have B2 := Hd.mk (B1.out.trans (hb.mono B1.out.size))
    clear hu hb
    go_wp2_with fail
    refine (HRN.out _ _ _ HU.out).mono ?_
    rintro e w3 ⟨⟨_, a3, c3, rfl, hu⟩ | ⟨hz, rfl⟩, hb⟩
    rotate_left
    · exact absurd HZ.out hz
    have T3 := Hd.mk (T2.out.below hb)
    have HT3 := Hd.mk (HT2.out.below hb)
    have HU3 := Hd.mk hu
    have B3 := Hd.mk (B2.out.trans (hb.mono B2.out.size))
    rw [HN.out]
    obtain ⟨V, hV, v0, v1⟩ := tboxU1 w3 (.slice a3 n c3)
    have HV := Hd.mk hV
    have V0 := Hd.mk v0
    have T4 := Hd.mk (T3.out.below v1)
    have HT4 := Hd.mk (HT3.out.below v1)
    have HU4 := Hd.mk (HU3.out.below v1)
    have B4 := Hd.mk (B3.out.trans (v1.mono B3.out.size))
    clear hu hb hV v0 v1
    go_upto_region 3 with fail
    rw [HV.out]
    have r0 := V0.out.cell
    have r1 := T4.out.cell
    have f1 := T4.out.frozen
    go_wp2_with fail
    go_region
    all_goals
      go_wp2_with fail
      refine bodyPost_ret (v := .tuple #[.pointer (some ⟨b, 0, none⟩), .agg #[.slice a3 n c3], .bool true]) (by simp [results, Tryz.results8, go_sem, r0, r1]) rfl (HRet.out _ _ ⟨Or.inl ⟨HZ.out, b, a3, c3, rfl, ?_, HBb.out, ?_⟩, ?_⟩)
      · exact OwnTab.set0 HT4.out (by have := T0.out.lt; omega) (by have := HBb2.out; have := T0.out.lt; omega) HWs.out _ 1
      · exact PrsU.setT HU4.out T4.out (fun k i e => by cases e) _ 1
      · exact below_drewN (B4.out.setCell (Nat.le_refl _) _) 1
  · have HZ := Hd.mk hz
    have T1 := Hd.mk (T0.out.below hb)
    have B1 := Hd.mk (B0.out.trans (hb.mono B0.out.size))
    have dz : ((newA l).1 != 0) = true := by rw [bne_iff_ne]; exact hz
    clear hz hb
    go_wp2_with fail
    refine (HOf.out _ (HP.out.below B1.out)).mono ?_; rintro e w2 ⟨a2, c2, rfl, hu, hb⟩
    have HU := Hd.mk hu
    have T2 := Hd.mk (T1.out.below hb)
    have B2 := Hd.mk (B1.out.trans (hb.mono B1.out.size))
    clear hu hb
    go_wp2_with fail
    refine (HRN.out _ _ _ HU.out).mono ?_
    rintro e w3 ⟨⟨hz, _⟩ | ⟨_, rfl⟩, hb⟩
    · exact absurd hz HZ.out
    have T3 := Hd.mk (T2.out.below hb)
    have B3 := Hd.mk (B2.out.trans (hb.mono B2.out.size))
    obtain ⟨V, hV, v0, v1⟩ := tboxU1 w3 (.slice none 0 0)
    have HV := Hd.mk hV
    have V0 := Hd.mk v0
    have T4 := Hd.mk (T3.out.below v1)
    have B4 := Hd.mk (B3.out.trans (v1.mono B3.out.size))
    have e1 : ((newA l).1 != (newA l).1) = false := by simp
    have e2 : (((newA l).2 : Int) != ((newA l).2 : Int)) = false := by simp
    have HZ2 : Hd (∀ E j, newA l = (E, j) → E ≠ 0) := ⟨fun E j h => by have := HZ.out; rw [h] at this; exact this⟩
    generalize hq : newA l = Q at *
    obtain ⟨E, j⟩ := Q
    dsimp only at dz e1 e2
    clear hb hV v0 v1 hq
    go_upto_region 3 with fail
    rw [HV.out]
    have r0 := V0.out.cell
    have r1 := T4.out.cell
    have f1 := T4.out.frozen
    go_wp2_with fail
    go_region
    all_goals
      go_wp2_with fail
      refine bodyPost_ret (v := .tuple #[.pointer none, .agg #[.slice none 0 0], .bool true]) (by simp [results, Tryz.results8, go_sem, r0, r1]) rfl (HRet.out _ _ ⟨Or.inr ⟨HZ.out, rfl⟩, ?_⟩)
      exact below_drewN (B4.out.setCell (Nat.le_refl _) _) 1

end Go.Proofs.YteikihidblcljaaGreat

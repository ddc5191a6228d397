/- Clip at whole numbers and floats; the walk of curve's Falls; two rows of the call's own. -/
import Derived.Test.YteikihidblcljaaQeC
import Derived.Test.YteikihidblcljaaQfC
import Derived.Test.YteikihidblcljaaZcC
namespace Go.Proofs.Yteikihidblcljaa
open Go.RowKit
set_option linter.unusedSimpArgs false
set_option linter.unusedVariables false

set_option maxHeartbeats 800000 in
theorem clipI_any (p : Addr) (n c : Nat) (hn : n ≤ c) (hc : c ≤ 9223372036854775807) (w : World) :
    Calls Try.prog 97 #[.slice (some p) n c] w fun e w' => e = .returned (.slice (some p) n n) ∧ w = w' := by
  go_enter Try.func97, Try.ntmps97
  go_wp2_with fail
  go_ret
  exact ⟨rfl, rfl⟩
set_option maxHeartbeats 800000 in
theorem clipG_any (p : Addr) (n c : Nat) (hn : n ≤ c) (hc : c ≤ 9223372036854775807) (w : World) :
    Calls Try.prog 98 #[.slice (some p) n c] w fun e w' => e = .returned (.slice (some p) n n) ∧ w = w' := by
  go_enter Try.func98, Try.ntmps98
  go_wp2_with fail
  go_ret
  exact ⟨rfl, rfl⟩

/-- The factor ahead. -/
def prF (F : List Nat) (i : Nat) : Nat := if i = 0 then one64 else F.getD (i - 1) 0
theorem flB_no {F : List Nat} {i : Nat} (hi : i < F.length) (h : ltF (prF F i) (F.getD i 0) = true) : flB F = false := by
  unfold flB
  rw [List.all_eq_false]
  exact ⟨i, List.mem_range.2 hi, by unfold prF at h; rw [h]; decide⟩
theorem flB_yes {F : List Nat} (h : ∀ i, i < F.length → ltF (prF F i) (F.getD i 0) = false) : flB F = true := by
  unfold flB
  rw [List.all_eq_true]
  intro i hi
  have := h i (List.mem_range.1 hi)
  unfold prF at this
  rw [this]; rfl
/-- It answers whether a curve falls, or what is wrong. -/
def FallRet (ba kind : Int) (X : List Int) (Y : List Nat) (w : World) (e : Ending) (w' : World) : Prop :=
  e = .returned (.tuple #[.bool (decide (chkU ba kind X Y = 0) && flB Y), .int .i64 (chkU ba kind X Y)]) ∧ Below w.heap.size w w'

set_option maxHeartbeats 3200000 in
theorem curveFalls_any (ba kind : Int) (ax : Option Addr) (X : List Int) (cx : Nat) (ay : Option Addr) (Y : List Nat) (cy : Nat) (w : World) (ht : Tbl w ax X ay Y) :
    Calls Try.prog 46 #[.agg #[.int .i64 ba, .int .i64 kind, .slice ax X.length cx, .slice ay Y.length cy]] w (FallRet ba kind X Y w) := by
  obtain ⟨W, hW, b1, b2⟩ := box_c w ba kind ax X.length cx ay Y.length cy
  have HW := Hd.mk hW
  have B1 := Hd.mk b1
  have B2 := Hd.mk b2
  have HC := Hd.mk fun w' h => curveCheck_any ba kind ax X cx ay Y cy w' h
  have HT := Hd.mk (ht.belowK b2)
  have HR : Hd (∀ e w', (e = .returned (.tuple #[.bool (decide (chkU ba kind X Y = 0) && flB Y), .int .i64 (chkU ba kind X Y)]) ∧ Below w.heap.size w w') → FallRet ba kind X Y w e w') := ⟨fun e w' h => h⟩
  by_cases hc : chkU ba kind X Y = 0
  rotate_left
  · obtain ⟨E, hE⟩ : ∃ E, chkU ba kind X Y = E := ⟨_, rfl⟩
    rw [hE] at HC hc
    have d1 : (E != 0) = true := by rw [bne_iff_ne]; exact hc
    have HR2 : Hd (∀ w', Below w.heap.size w w' → FallRet ba kind X Y w (.returned (.tuple #[.bool false, .int .i64 E])) w') := ⟨fun w' h => HR.out _ _ ⟨by rw [hE, decide_eq_false hc]; rfl, h⟩⟩
    generalize X.length = m at *
    generalize Y.length = k at *
    obtain ⟨p0, p1, p2, p3⟩ := b1.cell
    clear hc ht b1 b2 hW hE HR
    go_enter Try.func46, Try.ntmps46
    go_upto_region 1 with fail
    rw [HW.out]
    go_wp2_with fail
    refine (HC.out _ HT.out).mono ?_; rintro e w1 ⟨rfl, hb⟩
    have C1 := Hd.mk (B2.out.trans (hb.mono B2.out.size))
    clear hb
    go_wp2_with fail
    exact bodyPost_ret (v := .tuple #[.bool false, .int .i64 E]) (by simp [results, Try.results46, go_sem]) rfl (HR2.out _ C1.out)
  have HR2 : Hd (∀ b w', flB Y = b → Below w.heap.size w w' → FallRet ba kind X Y w (.returned (.tuple #[.bool b, .int .i64 0])) w') := ⟨fun b w' h1 h => HR.out _ _ ⟨by rw [hc, h1]; rfl, h⟩⟩
  have ly := ht.fy.len
  have HWF := Hd.mk ht.fy.wf
  rw [hc] at HC
  obtain ⟨m, hm⟩ : ∃ m, Y.length = m := ⟨_, rfl⟩
  have HM := Hd.mk hm
  rw [hm] at HC B1 b1 hW HW ly ⊢
  generalize X.length = n at *
  obtain ⟨p0, p1, p2, p3⟩ := b1.cell
  clear hc ht b1 b2 hW hm HR
  go_enter Try.func46, Try.ntmps46
  go_upto_region 1 with fail
  rw [HW.out]
  go_wp2_with fail
  refine (HC.out _ HT.out).mono ?_; rintro e w1 ⟨rfl, hb⟩
  have C1 := Hd.mk (B2.out.trans (hb.mono B2.out.size))
  have T1 := Hd.mk (HT.out.belowK hb)
  have U1 := Hd.mk (B1.out.below hb)
  clear hb p0 p1 p2 p3
  obtain ⟨p0, p1, p2, p3⟩ := U1.out.cell
  go_wp2_with fail
  go_loop [5, 16] (fun l i => ∃ k : Nat, k ≤ m ∧ i = .int .i64 k ∧ l = .float .f64 (prF Y k) ∧ Hd (∀ i, i < k → ltF (prF Y i) (Y.getD i 0) = false)) (fun _ i => m - (intOf i).toNat)
  case atStart => exact ⟨0, Nat.zero_le _, rfl, rfl, ⟨fun i hi => by omega⟩⟩
  case round =>
    obtain ⟨k, hk, rfl, rfl, HA⟩ := hrel
    by_cases hlt : k < m
    · have hlt' : (k : Int) < m := by omega
      have k0 : (0 : Int) ≤ k := by omega
      obtain ⟨by_, oy, hay, hcy⟩ := T1.out.fy.at k (by rw [HM.out]; exact hlt)
      subst hay
      have fp : F64 (prF Y k) := by unfold prF; split; exact one_ok.1; exact HWF.out _
      have d5 := fgt' (Y.getD k 0) (prF Y k) (HWF.out k) fp
      have HNo := Hd.mk (flB_no (F := Y) (i := k) (by rw [HM.out]; exact hlt))
      have HP : Hd (prF Y (k + 1) = Y.getD k 0) := ⟨by unfold prF; rw [if_neg (by omega), Nat.add_sub_cancel]⟩
      have HGo : Hd (ltF (prF Y k) (Y.getD k 0) = false → ∀ i, i < k + 1 → ltF (prF Y i) (Y.getD i 0) = false) := ⟨fun h i hi => by
        by_cases e : i = k
        · rw [e]; exact h
        · exact HA.out i (by omega)⟩
      clear HA fp
      generalize Y.getD k 0 = y at *
      generalize prF Y k = p at *
      cases hp : ltF p y
      · rw [hp] at d5
        have HG := Hd.mk (HGo.out hp)
        clear hlt hp
        go_wp2_with fail
        exact ⟨⟨k + 1, by omega, by go_num, by rw [HP.out], HG⟩, by simp [intOf]; omega⟩
      · rw [hp] at d5
        have HN := Hd.mk (HNo.out hp)
        clear hlt hp
        go_wp2_with fail
        exact bodyPost_ret (v := .tuple #[.bool false, .int .i64 0]) (by simp [results, Try.results46, go_sem]) rfl (HR2.out _ _ HN.out C1.out)
    · obtain rfl : m = k := by omega
      have hge : ¬ (m : Int) < m := by omega
      have HN := Hd.mk (flB_yes (F := Y) (by rw [HM.out]; exact HA.out))
      clear hlt
      go_wp2_with fail
      exact bodyPost_ret (v := .tuple #[.bool true, .int .i64 0]) (by simp [results, Try.results46, go_sem]) rfl (HR2.out _ _ HN.out C1.out)

/-- Two rows of the call's own, apart; nothing that lies ahead of base has changed. -/
structure RS (base : Nat) (wr w' : World) (vD : Value) (nD : Nat) (xD : List Value) (vF : Value) (nF : Nat) (xF : List Value) : Prop where
  od : w'.ownsRow base 3 1 vD nD xD
  of : w'.ownsRow base 28 1 vF nF xF
  ne : ∀ g, vD.ownBlock = some g → vF.ownBlock = some g → False
  bel : Below base wr w'
  hb : base ≤ w'.heap.size
/-- A block of one cell, apart from both rows. -/
structure Blt (w' : World) (g : Nat) (u : Value) (vD vF : Value) : Prop where
  cell : w'.cell? ⟨g, 0, none⟩ = some u
  nd : vD.ownBlock = some g → False
  nf : vF.ownBlock = some g → False
theorem RS.build {base : Nat} {wr w' : World} {vD : Value} {nD : Nat} {xD : List Value} {vF : Value} {nF : Nat} {xF : List Value} (h : RS base wr w' vD nD xD vF nF xF) (u : Value) (e : TypeId) :
    ∃ w1, w'.alloc (.cells #[u] e) = w1 ∧ RS base wr w1 vD nD xD vF nF xF ∧ Blt w1 w'.heap.size u vD vF ∧ ∀ g u', Blt w' g u' vD vF → Blt w1 g u' vD vF := by
  refine ⟨_, rfl, ⟨h.od.alloc _, h.of.alloc _, h.ne, h.bel.alloc h.hb _, Nat.le_trans h.hb (World.alloc_size_le _ _)⟩, ⟨?_, fun e => ?_, fun e => ?_⟩, fun g u' b => ⟨?_, b.nd, b.nf⟩⟩
  · rw [cell_of_row _ w'.heap.size 0 #[u] e (0, 0) (heap_alloc_new w' _)]; rfl
  · have := (h.od.lt _ e).2; omega
  · have := (h.of.lt _ e).2; omega
  · rw [World.cell?_alloc_lt _ _ _ (World.block_lt_of_cell? _ _ b.cell)]; exact b.cell
theorem RS.appD {base : Nat} {wr w' w1 : World} {vD : Value} {nD n' g cap : Nat} {xD x' : List Value} {vF : Value} {nF : Nat} {xF : List Value} (h : RS base wr w' vD nD xD vF nF xF)
    (ho : w1.ownsRow base 3 1 (.slice (some ⟨g, 0, none⟩) n' cap) n' x') (hg : w'.grownBy w1 vD.ownBlock) (ha : vD.ownBlock = some g ∨ g = w'.heap.size) :
    RS base wr w1 (.slice (some ⟨g, 0, none⟩) n' cap) n' x' vF nF xF ∧ ∀ k u, Blt w' k u vD vF → Blt w1 k u (.slice (some ⟨g, 0, none⟩) n' cap) vF := by
  have hne : ∀ k, vF.ownBlock = some k → k < w'.heap.size := fun k e => (h.of.lt k e).2
  refine ⟨⟨ho, h.of.kept hg ?_, fun k e1 e2 => ?_, below_grown h.bel hg (fun k e => (h.od.lt k e).1) h.hb, Nat.le_trans h.hb hg.size⟩, fun k u b => ⟨?_, fun e => ?_, b.nf⟩⟩
  · cases hv : vF.ownBlock with
    | none => exact Or.inl rfl
    | some k => exact Or.inr fun e => h.ne k e.symm hv
  · have e3 : g = k := by simpa [Value.ownBlock] using e1
    subst e3
    rcases ha with ha | ha
    · exact h.ne g ha e2
    · have := hne g e2; omega
  · have hlt := World.block_lt_of_cell? _ _ b.cell
    rw [hg.cell_far ⟨k, 0, none⟩ hlt (fun e => b.nd e.symm)]; exact b.cell
  · have e3 : g = k := by simpa [Value.ownBlock] using e
    subst e3
    have hlt := World.block_lt_of_cell? _ _ b.cell
    rcases ha with ha | ha
    · exact b.nd ha
    · have : g < w'.heap.size := hlt; omega
theorem RS.appF {base : Nat} {wr w' w1 : World} {vD : Value} {nD n' g cap : Nat} {xD x' : List Value} {vF : Value} {nF : Nat} {xF : List Value} (h : RS base wr w' vD nD xD vF nF xF)
    (ho : w1.ownsRow base 28 1 (.slice (some ⟨g, 0, none⟩) n' cap) n' x') (hg : w'.grownBy w1 vF.ownBlock) (ha : vF.ownBlock = some g ∨ g = w'.heap.size) :
    RS base wr w1 vD nD xD (.slice (some ⟨g, 0, none⟩) n' cap) n' x' ∧ ∀ k u, Blt w' k u vD vF → Blt w1 k u vD (.slice (some ⟨g, 0, none⟩) n' cap) := by
  have hne : ∀ k, vD.ownBlock = some k → k < w'.heap.size := fun k e => (h.od.lt k e).2
  refine ⟨⟨h.od.kept hg ?_, ho, fun k e1 e2 => ?_, below_grown h.bel hg (fun k e => (h.of.lt k e).1) h.hb, Nat.le_trans h.hb hg.size⟩, fun k u b => ⟨?_, b.nd, fun e => ?_⟩⟩
  · cases hv : vD.ownBlock with
    | none => exact Or.inl rfl
    | some k => exact Or.inr fun e => h.ne k hv e.symm
  · have e3 : g = k := by simpa [Value.ownBlock] using e2
    subst e3
    rcases ha with ha | ha
    · exact h.ne g e1 ha
    · have := hne g e1; omega
  · have hlt := World.block_lt_of_cell? _ _ b.cell
    rw [hg.cell_far ⟨k, 0, none⟩ hlt (fun e => b.nf e.symm)]; exact b.cell
  · have e3 : g = k := by simpa [Value.ownBlock] using e
    subst e3
    have hlt := World.block_lt_of_cell? _ _ b.cell
    rcases ha with ha | ha
    · exact b.nf ha
    · have : g < w'.heap.size := hlt; omega

end Go.Proofs.Yteikihidblcljaa

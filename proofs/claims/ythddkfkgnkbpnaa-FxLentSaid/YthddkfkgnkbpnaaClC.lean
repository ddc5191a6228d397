/- The walk of tenorlaw23's FxLent. -/
import Derived.Test.YthddkfkgnkbpnaaCkC
import Derived.Test.YthddkfkgnkbpnaaCbC
import Derived.Test.YthddkfkgnkbpnaaCnC
import Derived.Test.YthddkfkgnkbpnaaCeC
import Derived.Test.YthddkfkgnkbpnaaM15
import Derived.Test.YthddkfkgnkbpnaaYrC
import Derived.StillTailTactics
namespace Go.Proofs.Ythddkfkgnkbpnaa
open Go.RowKit
set_option linter.unusedSimpArgs false
set_option linter.unusedVariables false

theorem own_flwsL {w : World} {base n c : Nat} {a : Option Addr} {l : List Fw} (h : w.ownsRow base 54 3 (.slice a n c) n (flV l)) (hn : l.length = n) (hw : ∀ k, F64 (l.getD k fw0).x) (hr : ∀ k, (-9223372036854775808 ≤ (l.getD k fw0).d ∧ (l.getD k fw0).d ≤ 9223372036854775807) ∧ (-9223372036854775808 ≤ (l.getD k fw0).c ∧ (l.getD k fw0).c ≤ 9223372036854775807)) (hl : l.length ≤ 9223372036854775807) : Flws w a l := by
  rcases h.2 with ⟨e, e2⟩ | ⟨g, cap, cur, e, _⟩
  · have : l = [] := List.length_eq_zero_iff.1 (by omega)
    subst this
    exact Flws.nil _ _
  · have ea : a = some ⟨g, 0, none⟩ := by simp at e; exact e.1
    subst ea
    refine ⟨fun k hk => ⟨g, 0, rfl, ?_⟩, hw, hr, hl⟩
    obtain ⟨c1, c2, c3⟩ := flV_get l k hk
    have ha : ∀ i, (⟨g, 0, none⟩ : Addr).add i = ⟨g, 0 + i, none⟩ := fun i => by by_cases h0 : i = 0 <;> simp [Addr.add, h0]
    have k1 := h.cells rfl _ _ c1
    have k2 := h.cells rfl _ _ c2
    have k3 := h.cells rfl _ _ c3
    rw [ha] at k1 k2 k3
    exact ⟨k1, k2, k3⟩
def q77 : Pr := ⟨77, 0, 0⟩
theorem own77 {l : List Pr} (hw : ∀ k, F64 (l.getD k pr0).x) (hr : ∀ k, (-9223372036854775808 ≤ (l.getD k pr0).a ∧ (l.getD k pr0).a ≤ 9223372036854775807) ∧ (-9223372036854775808 ≤ (l.getD k pr0).b ∧ (l.getD k pr0).b ≤ 9223372036854775807)) :
    (l ++ [q77]).length = l.length + 1 ∧ (∀ k, F64 ((l ++ [q77]).getD k pr0).x) ∧ (∀ k, (-9223372036854775808 ≤ ((l ++ [q77]).getD k pr0).a ∧ ((l ++ [q77]).getD k pr0).a ≤ 9223372036854775807) ∧ (-9223372036854775808 ≤ ((l ++ [q77]).getD k pr0).b ∧ ((l ++ [q77]).getD k pr0).b ≤ 9223372036854775807)) ∧
    (∀ k, k < l.length → (l ++ [q77]).getD k pr0 = l.getD k pr0) ∧ (l ++ [q77]).getD l.length pr0 = q77 := by
  have g : ∀ k, k < l.length → (l ++ [q77]).getD k pr0 = l.getD k pr0 := fun k hk => by
    simp only [List.getD_eq_getElem?_getD, List.getElem?_append_left hk]
  have g2 : (l ++ [q77]).getD l.length pr0 = q77 := by
    simp [List.getD_eq_getElem?_getD]
  have g3 : ∀ k, l.length < k → (l ++ [q77]).getD k pr0 = pr0 := fun k hk => by
    rw [List.getD_eq_getElem?_getD, List.getElem?_eq_none (by simp; omega)]; rfl
  refine ⟨by simp, fun k => ?_, fun k => ?_, g, g2⟩
  · rcases Nat.lt_trichotomy k l.length with h | h | h
    · rw [g k h]; exact hw k
    · rw [h, g2]; exact ⟨by decide⟩
    · rw [g3 k h]; exact ⟨by decide⟩
  · rcases Nat.lt_trichotomy k l.length with h | h | h
    · rw [g k h]; exact hr k
    · rw [h, g2]; simp [q77]
    · rw [g3 k h]; simp [pr0]
theorem OwnTab.setP {w : World} {base b g k : Nat} {L : List Pr} {p : Pr} (h : OwnTab w base b L) (hg : g < base) (hb : g ≠ b) : OwnTab (set3 w g k p) base b L := by
  obtain ⟨v, h1, h2⟩ := h.ex
  have o : (set3 w g k p).ownsRow base 40 3 v L.length (prV L) := by
    unfold set3
    exact ownsRow_setCell_below (ownsRow_setCell_below (ownsRow_setCell_below h2 (a := ⟨g, k * 3, none⟩) hg _) (a := ⟨g, k * 3 + 1, none⟩) hg _) (a := ⟨g, k * 3 + 2, none⟩) hg _
  exact ⟨⟨v, (set3_block w g k p (Ne.symm hb)).trans h1, o⟩, h.wf, h.rg, h.len⟩
theorem PRow.pre {w : World} {g cap : Nat} {l : List Pr} (h : PRow w g cap (l ++ [q77])) : Prs w (some ⟨g, 0, none⟩) l := by
  have h1 := h.prs
  have e : ∀ k, k < l.length → (l ++ [q77]).getD k pr0 = l.getD k pr0 := fun k hk => by
    simp only [List.getD_eq_getElem?_getD, List.getElem?_append_left hk]
  refine ⟨fun k hk => ?_, fun k => ?_, fun k => ?_, by have := h1.len; rw [List.length_append] at this; omega⟩
  · rw [← e k hk]; exact h1.cell k (by rw [List.length_append]; omega)
  · by_cases hk : k < l.length
    · rw [← e k hk]; exact h1.wf k
    · rw [List.getD_eq_getElem?_getD, List.getElem?_eq_none (by omega)]; exact ⟨by decide⟩
  · by_cases hk : k < l.length
    · rw [← e k hk]; exact h1.rg k
    · rw [List.getD_eq_getElem?_getD, List.getElem?_eq_none (by omega)]; simp [pr0]

theorem ownsRow_setF3 {w : World} {base g k : Nat} {t : TypeId} {size n : Nat} {v : Value} {xs : List Value} (h : w.ownsRow base t size v n xs) (hg : g < base) (p : Fw) : (setF3 w g k p).ownsRow base t size v n xs := by
  unfold setF3
  exact ownsRow_setCell_below (ownsRow_setCell_below (ownsRow_setCell_below h (a := ⟨g, k * 3, none⟩) hg _) (a := ⟨g, k * 3 + 1, none⟩) hg _) (a := ⟨g, k * 3 + 2, none⟩) hg _
theorem cv_ok (L : List Pr) (tc : Int) {m : List Fw} (ht : -9223372036854775808 ≤ tc ∧ tc ≤ 9223372036854775807) (hr : ∀ k, (-9223372036854775808 ≤ (m.getD k fw0).d ∧ (m.getD k fw0).d ≤ 9223372036854775807) ∧ (-9223372036854775808 ≤ (m.getD k fw0).c ∧ (m.getD k fw0).c ≤ 9223372036854775807)) :
    (m.map (cvF L tc)).length = m.length ∧ (∀ k, F64 ((m.map (cvF L tc)).getD k fw0).x) ∧ (∀ k, (-9223372036854775808 ≤ ((m.map (cvF L tc)).getD k fw0).d ∧ ((m.map (cvF L tc)).getD k fw0).d ≤ 9223372036854775807) ∧ (-9223372036854775808 ≤ ((m.map (cvF L tc)).getD k fw0).c ∧ ((m.map (cvF L tc)).getD k fw0).c ≤ 9223372036854775807)) := by
  have key : ∀ k, (m.map (cvF L tc)).getD k fw0 = if k < m.length then cvF L tc (m.getD k fw0) else fw0 := fun k => by
    simp only [List.getD_eq_getElem?_getD, List.getElem?_map]
    by_cases h : k < m.length
    · rw [if_pos h, List.getElem?_eq_getElem h]; rfl
    · rw [if_neg h, List.getElem?_eq_none (by omega)]; rfl
  refine ⟨by simp, fun k => ?_, fun k => ?_⟩
  · rw [key]; split
    · exact F64_fmul _ _
    · exact ⟨by decide⟩
  · rw [key]; split
    · exact ⟨(hr k).1, ht⟩
    · simp [fw0]
theorem none_row (W : World) (Z : Array Value) : ∃ w4, ((((W.alloc (.cells #[] 40)).alloc (.cells #[.int .i64 77, .int .i64 0, .float .f64 0] 40)).alloc (.cells (#[.int .i64 77, .int .i64 0, .float .f64 0] ++ Z) 40)).drew) = w4 ∧
    w4.cell? ⟨W.heap.size + 1 + 1, 0, none⟩ = some (.int .i64 77) ∧ w4.cell? ⟨W.heap.size + 1 + 1, 1, none⟩ = some (.int .i64 0) ∧ w4.cell? ⟨W.heap.size + 1 + 1, 2, none⟩ = some (.float .f64 0) ∧ Below W.heap.size W w4 := by
  have hb : (((W.alloc (.cells #[] 40)).alloc (.cells #[.int .i64 77, .int .i64 0, .float .f64 0] 40)).alloc (.cells (#[.int .i64 77, .int .i64 0, .float .f64 0] ++ Z) 40)).drew.heap[W.heap.size + 1 + 1]? = some (.cells (#[.int .i64 77, .int .i64 0, .float .f64 0] ++ Z) 40 (0, 0)) := by
    show (((W.alloc (.cells #[] 40)).alloc (.cells #[.int .i64 77, .int .i64 0, .float .f64 0] 40)).alloc (.cells (#[.int .i64 77, .int .i64 0, .float .f64 0] ++ Z) 40)).heap[W.heap.size + 1 + 1]? = _
    have := heap_alloc_new ((W.alloc (.cells #[] 40)).alloc (.cells #[.int .i64 77, .int .i64 0, .float .f64 0] 40)) (.cells (#[.int .i64 77, .int .i64 0, .float .f64 0] ++ Z) 40)
    rw [show ((W.alloc (.cells #[] 40)).alloc (.cells #[.int .i64 77, .int .i64 0, .float .f64 0] 40)).heap.size = W.heap.size + 1 + 1 by go_simp] at this
    exact this
  refine ⟨_, rfl, ?_, ?_, ?_, ?_⟩
  · rw [cell_of_row _ _ _ _ _ _ hb, Array.getElem?_append_left (by decide)]; rfl
  · rw [cell_of_row _ _ _ _ _ _ hb, Array.getElem?_append_left (by decide)]; rfl
  · rw [cell_of_row _ _ _ _ _ _ hb, Array.getElem?_append_left (by decide)]; rfl
  · exact ((((Below.refl _ _).alloc (Nat.le_refl _) _).alloc (World.alloc_size_le _ _) _).alloc (Nat.le_trans (World.alloc_size_le _ _) (World.alloc_size_le _ _)) _).drew
/-- The row that a call of Convert has told, if there is a flow. -/
def RowA (m : List Fw) (w5 w6 wv : World) (a6 : Option Addr) (c6 : Nat) : Prop := m.length = 0 ∨ ∃ g6 mm, a6 = some ⟨g6, 0, none⟩ ∧ mm.length = m.length ∧ FlRow wv g6 c6 mm ∧ w5.heap.size ≤ g6 ∧ g6 < w6.heap.size
theorem rowA_of {L : List Pr} {tc : Int} {m : List Fw} {w5 w6 : World} {a6 : Option Addr} {c6 : Nat} (ho : w6.ownsRow w5.heap.size 54 3 (.slice a6 m.length c6) m.length (flV (m.map (cvF L tc)))) (ht : -9223372036854775808 ≤ tc ∧ tc ≤ 9223372036854775807)
    (hr : ∀ k, (-9223372036854775808 ≤ (m.getD k fw0).d ∧ (m.getD k fw0).d ≤ 9223372036854775807) ∧ (-9223372036854775808 ≤ (m.getD k fw0).c ∧ (m.getD k fw0).c ≤ 9223372036854775807)) : RowA m w5 w6 w6 a6 c6 := by
  by_cases h0 : m.length = 0
  · exact Or.inl h0
  · obtain ⟨l1, l2, l3⟩ := cv_ok L tc ht hr
    obtain ⟨g, cap, e, hb, hrow⟩ := FlRow.of_own ho l1.symm l2 l3 (fun e => h0 (by rw [← l1, e]; rfl))
    rw [l1] at e
    simp at e
    obtain ⟨rfl, rfl⟩ := e
    exact Or.inr ⟨g, _, rfl, l1, hrow, hb, hrow.lt⟩
theorem RowA.below {m : List Fw} {w5 w6 wv wx : World} {a6 : Option Addr} {c6 : Nat} (h : RowA m w5 w6 wv a6 c6) (hb : Below wv.heap.size wv wx) : RowA m w5 w6 wx a6 c6 := by
  rcases h with h | ⟨g, mm, h1, h2, h3, h4⟩
  · exact Or.inl h
  · exact Or.inr ⟨g, mm, h1, h2, h3.below hb, h4⟩


set_option maxHeartbeats 3200000 in
set_option maxRecDepth 100000 in
theorem fxLent_any (ad : Option Addr) (l : List Pr) (c : Nat) (am : Option Addr) (m : List Fw) (cm : Nat) (tc : Int) (w : World) (hl : Prs w ad l) (hr : Room ad l.length c) (hm : Flws w am m) (hrm : Room am m.length cm) (ht : (Lit.int .i64 tc).wf = true) :
    Calls Try.prog 8 #[.slice ad l.length c, .slice am m.length cm, .int .i64 tc] w fun e w' => e = .returned (.bool true) ∧ Below w.heap.size w w' := by
  have hlen := hl.len
  have hlenm := hm.len
  by_cases h28 : 28 < l.length
  · have d1 : decide ((l.length : Int) > 28) = true := by simp; omega
    generalize l.length = n at *
    generalize m.length = nm at *
    clear h28 hl hr hm hrm
    go_enter Try.func8, Try.ntmps8
    go_wp2_with fail
    refine (awake23_any _).mono ?_; rintro e w1 ⟨rfl, hb⟩
    have B := Hd.mk hb
    clear hb
    go_wp2_with fail
    go_ret
    exact ⟨rfl, B.out⟩
  have d1 : decide ((l.length : Int) > 28) = false := by simp; omega
  by_cases h40 : 40 < m.length
  · have d2 : decide ((m.length : Int) > 40) = true := by simp; omega
    generalize l.length = n at *
    generalize m.length = nm at *
    clear h28 h40 hl hr hm hrm
    go_enter Try.func8, Try.ntmps8
    go_wp2_with fail
    refine (awake23_any _).mono ?_; rintro e w1 ⟨rfl, hb⟩
    have B := Hd.mk hb
    clear hb
    go_wp2_with fail
    go_ret
    exact ⟨rfl, B.out⟩
  have d2 : decide ((m.length : Int) > 40) = false := by simp; omega
  have n28 : l.length ≤ 28 := by omega
  have nm40 : m.length ≤ 40 := by omega
  have HL := Hd.mk hl
  have HM := Hd.mk hm
  have HOf := Hd.mk (of23_any ad l c w hl (by omega))
  have HGD := Hd.mk (newA_iff hl.wf)
  have HRN : Hd (∀ a c w, PrsU w a l → Calls Try.prog 26 #[.slice a l.length c] w fun e w' => ∃ a2 n2 c2, e = .returned (.tuple #[.agg #[.slice a2 n2 c2], .int .i64 (newA l).1, .int .i64 ((newA l).2 : Nat)]) ∧ ((newA l).1 = 0 → n2 = l.length ∧ PrsU w' a2 l) ∧ Below w.heap.size w w') := ⟨fun a c w h => (rNew_any a l c w h).mono fun e w' he => by
    obtain ⟨⟨hz, a2, c2, rfl, hu⟩ | ⟨hz, rfl⟩, hb⟩ := he
    · have hg := (HGD.out.1 hz).2
      have h2 : (newA l).2 = 0 := by
        have hw := (newT_of_good l hg l.length (Nat.le_refl _))
        unfold newA
        rw [if_neg (by omega), hw]
      exact ⟨a2, l.length, c2, by rw [hz, h2]; rfl, fun _ => ⟨rfl, hu⟩, hb⟩
    · exact ⟨none, 0, 0, rfl, fun h => absurd h hz, hb⟩⟩
  have HNw : Hd (∀ a c w, Prs w a l → Calls Try.prog 13 #[.slice a l.length c] w fun e w' => ∃ q, e = .returned (.tuple #[.pointer q, .int .i64 (newA l).1, .int .i64 ((newA l).2 : Nat)]) ∧ ((newA l).1 = 0 → ∃ tb, q = some ⟨tb, 0, none⟩ ∧ w.heap.size ≤ tb ∧ OwnTab w' w.heap.size tb l) ∧ ((newA l).1 ≠ 0 → q = none) ∧ Below w.heap.size w w') := ⟨fun a c w h => (fxNew_any a l c w h).mono fun e w' he => by
    obtain ⟨⟨hz, tb, rfl, h1, h2⟩ | ⟨hz, rfl⟩, hb⟩ := he
    · have hg := (HGD.out.1 hz).2
      have h3 : (newA l).2 = 0 := by
        have hw := (newT_of_good l hg l.length (Nat.le_refl _))
        unfold newA
        rw [if_neg (by omega), hw]
      exact ⟨_, by rw [hz, h3]; rfl, fun _ => ⟨tb, rfl, h1, h2⟩, fun h => absurd hz h, hb⟩
    · exact ⟨none, rfl, fun h => absurd h hz, fun _ => rfl, hb⟩⟩
  have HG : Hd ((newA l).1 = 0 → Good l) := ⟨fun h => (HGD.out.1 h).2⟩
  obtain ⟨o1, o2, o3, o4, o5⟩ := own77 hl.wf hl.rg
  have O1 := Hd.mk o1
  have O2 := Hd.mk o2
  have O3 := Hd.mk o3
  have O4 := Hd.mk o4
  have O5 := Hd.mk o5
  obtain ⟨i0, hi, hz0, hz1, hz2⟩ := info_partsP
  have hnil := hr.nil
  have HXG : Hd (∀ W p, ad = some p → Below w.heap.size w W → (prV l).length = l.length * 3 ∧ (∀ j u, (prV l)[j]? = some u → W.cell? (p.add j) = some u) ∧ (∀ u ∈ prV l, u.oneCell' = true)) := ⟨fun W p hp hW => ⟨prV_len l, fun j u hu => by
    by_cases h0 : l.length = 0
    · have : l = [] := List.length_eq_zero_iff.1 h0
      subst this
      simp [prV] at hu
    · obtain ⟨b, o, hb, _⟩ := hl.cell 0 (by omega)
      rw [hp] at hb
      cases hb
      subst hp
      exact (hl.below hW).news j u hu, prV_one l⟩⟩
  have hn0 : ad = none → l = [] := fun e => by
    subst e
    by_cases h0 : l.length = 0
    · exact List.length_eq_zero_iff.1 h0
    · obtain ⟨b, o, hb, _⟩ := hl.cell 0 (by omega)
      cases hb
  have HN0 := Hd.mk hn0
  unfold OfPr at HOf
  generalize hE : (newA l).1 = E at *
  generalize (((newA l).2 : Nat) : Int) = J at *
  generalize hn : l.length = n at *
  generalize hnm : m.length = nm at *
  have HN := Hd.mk hn
  have HNM := Hd.mk hnm
  clear h28 h40 hl hr hm hrm o1 o2 o3 o4 o5 hn hnm hn0 HGD hE
  go_enter Try.func8, Try.ntmps8
  go_wp2_with fail
  refine HOf.out.mono ?_; rintro e w1 ⟨a1, c1, rfl, hu, hb⟩
  have B1 := Hd.mk hb
  have U1 := Hd.mk hu
  clear hu hb HOf
  go_wp2_with fail
  refine (HRN.out _ _ _ U1.out).mono ?_
  rintro e w2 ⟨a2, n2, c2, rfl, hu, hb⟩
  have B2 := Hd.mk (B1.out.trans (hb.mono B1.out.size))
  have U2 := Hd.mk hu
  obtain ⟨W, hW, t0, b0⟩ := tboxUR w2 (.slice a2 n2 c2)
  have HW := Hd.mk hW
  have T0 := Hd.mk t0
  have U3 : Hd (E = 0 → n2 = n ∧ PrsU W a2 l) := ⟨fun h => ⟨(hu h).1, (hu h).2.below b0⟩⟩
  have b3 := B2.out.trans (b0.mono B2.out.size)
  have B3 := Hd.mk b3
  clear hu hb hW t0 b0 U1 U2 HRN B1 B2
  have OE : Hd ((W.alloc (.cells #[] 40)).ownsRow W.heap.size 40 3 (.slice (some ⟨W.heap.size, 0, none⟩) 0 0) 0 []) := ⟨World.ownsRow_made W #[] 0 (Nat.le_refl _) (by decide) rfl⟩
  have BE : Hd (Below W.heap.size W (W.alloc (.cells #[] 40))) := ⟨(Below.refl _ _).alloc (Nat.le_refl _) _⟩
  have HMx : Hd (0 + n ≤ maxLen ∧ (0 + n) * 24 ≤ 140737488355328 ∧ n + 1 ≤ maxLen ∧ (n + 1) * 24 ≤ 140737488355328) := ⟨by unfold maxLen; omega, by omega, by unfold maxLen; omega, by omega⟩
  have HT := Hd.mk ht
  clear b3 ht
  go_upto_region 4 with fail
  rw [HW.out]
  clear HW
  rcases ad with _ | p
  · have hl0 := HN0.out rfl
    obtain rfl : n = 0 := by rw [← HN.out, hl0]; rfl
    obtain rfl : c = 0 := hnil rfl
    subst hl0
    clear HXG HN0 hnil
    have O0 : Hd ((W.alloc (.cells #[] 40)).ownsRow W.heap.size 40 3 (.slice (some ⟨W.heap.size, 0, none⟩) 0 0) 0 (prV [])) := ⟨OE.out⟩
    have hs3 : W.heap.size ≤ (W.alloc (.cells #[] 40)).heap.size := BE.out.size
    clear O0 hs3 OE BE
    go_wp2_with fail
    obtain ⟨w4, hw4, x1, x2, x3, b4⟩ := none_row W (Builtin.zeroCells #[Value.int IntKind.i64 0, Value.int IntKind.i64 0, Value.float FloatKind.f64 0] ((Question.appendCap 1 0 40).cut (W.tape W.drawn (Question.appendCap 1 0 40)) - 1))
    rw [hw4]
    have BW4 := Hd.mk b4
    clear hw4 b4
    generalize ((Question.appendCap 1 0 40).cut (W.tape W.drawn (Question.appendCap 1 0 40))) = cap at *
    refine (HNw.out _ _ w4 (Prs.nil _ _)).mono ?_
    rintro e w5 ⟨q, rfl, hq1, hq2, hb⟩
    have HQ1 := Hd.mk hq1
    have HQ2 := Hd.mk hq2
    have BW5 := Hd.mk (BW4.out.trans (hb.mono BW4.out.size))
    have y1 := cell_trP hb x1
    have y2 := cell_trP hb x2
    have y3 := cell_trP hb x3
    have xE : (E != E) = false := by simp
    have Q5 : Hd (E = 0 → ∃ tb, q = some ⟨tb, 0, none⟩ ∧ True ∧ OwnTab w5 w4.heap.size tb []) := ⟨fun h => by
      obtain ⟨tb, e, h1, h2⟩ := HQ1.out h
      exact ⟨tb, e, trivial, h2⟩⟩
    clear hq1 hq2 hb HNw x1 x2 x3 BW4
    have nq := fun w => neq77 w
    have gq := fun x y w => guard77 x y w
    go_upto_region 8 with fail
    clear nq gq y1 y2 y3 xE HQ1 O1 O2 O3 O4 O5
    go_wp2_with fail
    go_loopw [14] (fun iv wr => iv = .int .i64 0 ∧ Hd (Below W.heap.size W wr) ∧ Hd (E = 0 → ∃ tb, q = some ⟨tb, 0, none⟩ ∧ True ∧ OwnTab wr w4.heap.size tb [])) (fun iv _ => 0)
    case atStart => exact ⟨rfl, BW5, Q5⟩
    case round =>
      clear BW5 Q5
      obtain ⟨rfl, BW, HQ⟩ := hrel
      have BWw := Hd.mk (B3.out.trans (BW.out.mono B3.out.size))
      generalize hlz : ([] : List Pr) = l at *
      generalize wr = wo at *
      by_cases hE0 : E = 0
      · subst hE0
        obtain ⟨tb, hq, _, hown⟩ := HQ.out rfl
        subst hq
        have HTb := Hd.mk hown.tab
        have G := Hd.mk (HG.out rfl)
        have HCv := Hd.mk fun w' T' h => fxConvert_any l G.out tb am m cm tc w' T' h
        unfold ConvRet at HCv
        rw [HNM.out] at HCv
        have TC : Hd (-9223372036854775808 ≤ tc ∧ tc ≤ 9223372036854775807) := ⟨by
          have h2 := HT.out
          have h3 : IntKind.min .i64 = -9223372036854775808 := by decide
          have h4 : IntKind.max .i64 = 9223372036854775807 := by decide
          simp only [Lit.wf, Bool.and_eq_true, decide_eq_true_eq, h3, h4] at h2
          exact h2⟩
        clear hown HQ HQ2
        go_wp2_with fail
        refine (HCv.out _ HTb.out (HM.out.below BWw.out)).mono ?_
        rintro e w6 ⟨⟨hz, a6, c6, rfl, ho⟩ | ⟨hz, rfl⟩, hb⟩
        · have B6 := Hd.mk (BWw.out.trans (hb.mono BWw.out.size))
          have BW6 := Hd.mk (BW.out.trans (hb.mono BW.out.size))
          have T6 := Hd.mk (HTb.out.below hb)
          have hsz6 : wo.heap.size ≤ w6.heap.size := hb.size
          have hra := rowA_of (w5 := wo) (by rw [HNM.out]; exact ho) TC.out HM.out.rg
          have HRA := Hd.mk hra
          have S6 : Hd (W.heap.size ≤ wo.heap.size) := ⟨BW.out.size⟩
          have HZ := Hd.mk hz
          clear hb ho hra hz
          go_wp2_with fail
          refine (HCv.out _ T6.out (HM.out.below B6.out)).mono ?_
          rintro e w7 ⟨⟨_, a7, c7, rfl, ho⟩ | ⟨hz, _⟩, hb⟩
          rotate_left
          · exact absurd HZ.out hz
          have BW7 := Hd.mk (BW6.out.trans (hb.mono BW6.out.size))
          have HRA7 := Hd.mk (HRA.out.below hb)
          have O7 := Hd.mk ho
          have S7 : Hd (wo.heap.size ≤ w6.heap.size) := ⟨hsz6⟩
          clear hb ho T6 HRA BW6 B6 HCv
          go_wp2_with fail
          go_loopw [19] (fun iv wr => ∃ k : Nat, k ≤ nm ∧ iv = .int .i64 k ∧ Hd (RowA m wo w6 wr a6 c6) ∧ Hd (Below W.heap.size W wr) ∧ Hd (wr.ownsRow w6.heap.size 54 3 (.slice a7 nm c7) nm (flV (m.map (cvF l tc))))) (fun iv _ => nm - (intOf iv).toNat)
          case atStart => exact ⟨0, Nat.zero_le _, rfl, HRA7, BW7, O7⟩
          case round =>
            clear HRA7 BW7 O7
            obtain ⟨k, hk, rfl, HRv, BWv, OV⟩ := hrel
            by_cases hlt : k < nm
            · have hlt' : (k : Int) < nm := by omega
              have k0 : (0 : Int) ≤ k := by omega
              rcases HRv.out with h0 | ⟨g6, mm, rfl, hml, hrow, hg6, hg6'⟩
              · exact absurd h0 (by rw [HNM.out]; omega)
              have lk : k < mm.length := by rw [hml, HNM.out]; exact hlt
              obtain ⟨c1', c2', c3'⟩ := hrow.cell k lk
              obtain ⟨s1, s2, s3, s4⟩ := hrow.asks k ⟨-1, 0, 0⟩ lk
              have fz0 : ∀ i, wr.frozen? ⟨g6, i, none⟩ = false := hrow.frozen
              have hok : FwOk ⟨-1, 0, 0⟩ := ⟨⟨by decide⟩, by decide, by decide⟩
              have hset := hrow.set k ⟨-1, 0, 0⟩ lk hok
              have HS : Hd (RowA m wo w6 (setF3 wr g6 k ⟨-1, 0, 0⟩) (some ⟨g6, 0, none⟩) c6) := ⟨Or.inr ⟨g6, _, rfl, by rw [List.length_set]; exact hml, hset, hg6, hg6'⟩⟩
              have HO2 : Hd ((setF3 wr g6 k ⟨-1, 0, 0⟩).ownsRow w6.heap.size 54 3 (.slice a7 nm c7) nm (flV (m.map (cvF l tc)))) := ⟨ownsRow_setF3 OV.out hg6' _⟩
              have HB2 : Hd (Below W.heap.size W (setF3 wr g6 k ⟨-1, 0, 0⟩)) := ⟨setF3_below BWv.out (by have := S6.out; omega) k ⟨-1, 0, 0⟩⟩
              clear hlt hml hrow hg6 hg6' lk hok hset HRv OV BWv
              dsimp only at s1 s2 s3 s4
              go_wp2_with fail
              exact ⟨⟨k + 1, by omega, by go_num, HS, HB2, HO2⟩, by simp [intOf]; omega⟩
            · obtain rfl : nm = k := by omega
              obtain ⟨l1, l2, l3⟩ := cv_ok l tc TC.out HM.out.rg
              have LV := Hd.mk l1
              have LW := Hd.mk l2
              have LR := Hd.mk l3
              have BD0 := B3.out.trans (BWv.out.mono B3.out.size)
              have tb1 := T0.out.belowB BWv.out T0.out.lt
              have b1' : wr.drew.cell? ⟨w2.heap.size, 0, none⟩ = some (.slice a2 n2 c2) := tb1.cell
              have BD : Hd (Below w.heap.size w wr.drew) := ⟨BD0.drew⟩
              have FD : Hd (Flws wr.drew am m) := ⟨HM.out.below BD0.drew⟩
              have hu3 := U3.out (by first | rfl | trivial)
              obtain ⟨hn2, hu4⟩ := hu3
              have PD : Hd (PrsU wr.drew a2 l) := ⟨(hu4.below BWv.out).below (Below.refl _ _).drew⟩
              have HO14 := Hd.mk fun w' h => of14_any am m cm w' h (by rw [HNM.out]; omega)
              unfold OfFl at HO14
              rw [HNM.out] at HO14
              have HRC : Hd (∀ w' a8 c8, PrsU w' a2 l → FlwsU w' a8 m → Calls Try.prog 29 #[.agg #[.slice a2 n2 c2], .slice a8 nm c8, .int .i64 tc] w' fun e w9 => ∃ a9 c9, e = .returned (.tuple #[.slice a9 nm c9, .int .i64 0]) ∧ FlwsU w9 a9 (m.map (cvF l tc)) ∧ Below w'.heap.size w' w9) := ⟨fun w' a8 c8 h h' => by
                have hc := rFxConvert_any l G.out a2 c2 a8 m c8 tc w' h h'
                rw [HN.out, HNM.out, ← hn2] at hc
                refine hc.mono fun e w9 he => ?_
                obtain ⟨⟨_, a9, c9, e1, ho9⟩ | ⟨hne, _⟩, hb⟩ := he
                · rw [HNM.out] at e1 ho9
                  exact ⟨a9, c9, e1, own_flwsU ho9 (LV.out.trans HNM.out) LW.out LR.out (by rw [LV.out, HNM.out]; omega), hb⟩
                · exact absurd HZ.out hne⟩
              have FB : Hd (Flws wr a7 (m.map (cvF l tc))) := ⟨own_flwsL OV.out (LV.out.trans HNM.out) LW.out LR.out (by rw [LV.out, HNM.out]; omega)⟩
              have HSm := Hd.mk fun w' a9 c9 h h' => same14_any a7 (m.map (cvF l tc)) c7 a9 c9 w' h h'
              rw [LV.out, HNM.out] at HSm
              clear hu4 hn2 tb1 BD0 l1 l2 l3 HRv OV hlt hk
              go_upto_region 22 with fail
              go_region_held3 (fun w' => w'.cell? ⟨w2.heap.size, 0, none⟩ = some (.slice a2 n2 c2)) (first | with_reducible exact b1' | with_reducible exact b2' | with_reducible exact b3' | go_simp) (
                first
                | (
                go_at_call 30
                refine (HO14.out _ FD.out).mono ?_
                rintro en w8 ⟨a8, c8, rfl, hu8, hb⟩
                have b2' := cell_trP hb b1'
                have U8 := Hd.mk hu8
                have P8 := Hd.mk (PD.out.below hb)
                have F8 := Hd.mk ((FB.out.below (Below.refl _ _).drew).below hb)
                have B8 : Hd (Below w.heap.size w w8) := ⟨BD.out.trans (hb.mono BD.out.size)⟩
                clear hu8 hb)
                | (
                go_at_call 29
                refine (HRC.out _ _ _ P8.out U8.out).mono ?_
                rintro en w9 ⟨a9, c9, rfl, hu9, hb⟩
                have b3' := cell_trP hb b2'
                have F9 := Hd.mk (F8.out.below hb)
                have U9 := Hd.mk hu9
                have B9 : Hd (Below w.heap.size w w9) := ⟨B8.out.trans (hb.mono B8.out.size)⟩
                clear hb hu9))
              clear b1' b2' b3' P8 U8 F8 B8 PD FD BD
              go_wp2_with fail
              refine (HSm.out _ _ _ F9.out U9.out).mono ?_; rintro e w10 ⟨rfl, hb⟩
              have B10 := Hd.mk (B9.out.trans (hb.mono B9.out.size))
              clear hb
              go_wp2_with fail
              refine (awake23_any _).mono ?_; rintro e w11 ⟨rfl, hb⟩
              have B11 := Hd.mk (B10.out.trans (hb.mono B10.out.size))
              clear hb
              go_wp2_with fail
              go_ret
              exact ⟨rfl, B11.out⟩
        · have B6 := Hd.mk (BWw.out.trans (hb.mono BWw.out.size))
          have BW6 := Hd.mk (BW.out.trans (hb.mono BW.out.size))
          have T6 := Hd.mk (HTb.out.below hb)
          have HZ := Hd.mk hz
          clear hb hz
          go_wp2_with fail
          refine (HCv.out _ T6.out (HM.out.below B6.out)).mono ?_
          rintro e w7 ⟨⟨hz, _⟩ | ⟨_, rfl⟩, hb⟩
          · exact absurd hz HZ.out
          have BW7 := Hd.mk (BW6.out.trans (hb.mono BW6.out.size))
          clear hb T6 BW6 B6 HCv
          go_wp2_with fail
          go_loopw [19] (fun iv wr => iv = .int .i64 0 ∧ Hd (Below W.heap.size W wr)) (fun iv _ => 0)
          case atStart => exact ⟨rfl, BW7⟩
          case round =>
            clear BW7
            obtain ⟨rfl, BWv⟩ := hrel
            have BD0 := B3.out.trans (BWv.out.mono B3.out.size)
            have tb1 := T0.out.belowB BWv.out T0.out.lt
            have b1' : wr.drew.cell? ⟨w2.heap.size, 0, none⟩ = some (.slice a2 n2 c2) := tb1.cell
            have BD : Hd (Below w.heap.size w wr.drew) := ⟨BD0.drew⟩
            have FD : Hd (Flws wr.drew am m) := ⟨HM.out.below BD0.drew⟩
            obtain ⟨hn2, hu4⟩ := U3.out (by first | rfl | trivial)
            have PD : Hd (PrsU wr.drew a2 l) := ⟨(hu4.below BWv.out).below (Below.refl _ _).drew⟩
            have HO14 := Hd.mk fun w' h => of14_any am m cm w' h (by rw [HNM.out]; omega)
            unfold OfFl at HO14
            rw [HNM.out] at HO14
            have HRC : Hd (∀ w' a8 c8, PrsU w' a2 l → FlwsU w' a8 m → Calls Try.prog 29 #[.agg #[.slice a2 n2 c2], .slice a8 nm c8, .int .i64 tc] w' fun e w9 => e = .returned (.tuple #[.slice none 0 0, .int .i64 (cvE l m tc)]) ∧ Below w'.heap.size w' w9) := ⟨fun w' a8 c8 h h' => by
              have hc := rFxConvert_any l G.out a2 c2 a8 m c8 tc w' h h'
              rw [HN.out, HNM.out, ← hn2] at hc
              refine hc.mono fun e w9 he => ?_
              obtain ⟨⟨hne, _⟩ | ⟨_, e1⟩, hb⟩ := he
              · exact absurd hne HZ.out
              · exact ⟨e1, hb⟩⟩
            have HSm := Hd.mk fun w' => same14_any none [] 0 none 0 w' (Flws.nil w' none) (FlwsU.nil w' none)
            rw [show ([] : List Fw).length = 0 from rfl] at HSm
            clear hu4 hn2 tb1 BD0
            generalize cvE l m tc = CE at *
            have x9 : (CE == CE) = true := by simp
            go_upto_region 22 with fail
            go_region_held3 (fun w' => w'.cell? ⟨w2.heap.size, 0, none⟩ = some (.slice a2 n2 c2)) (first | with_reducible exact b1' | with_reducible exact b2' | with_reducible exact b3' | go_simp) (
              first
              | (
              go_at_call 30
              refine (HO14.out _ FD.out).mono ?_
              rintro en w8 ⟨a8, c8, rfl, hu8, hb⟩
              have b2' := cell_trP hb b1'
              have U8 := Hd.mk hu8
              have P8 := Hd.mk (PD.out.below hb)
              have B8 : Hd (Below w.heap.size w w8) := ⟨BD.out.trans (hb.mono BD.out.size)⟩
              clear hu8 hb)
              | (
              go_at_call 29
              refine (HRC.out _ _ _ P8.out U8.out).mono ?_
              rintro en w9 ⟨rfl, hb⟩
              have b3' := cell_trP hb b2'
              have B9 : Hd (Below w.heap.size w w9) := ⟨B8.out.trans (hb.mono B8.out.size)⟩
              clear hb))
            clear b1' b2' b3' P8 U8 B8 PD FD BD
            go_wp2_with fail
            refine (HSm.out _).mono ?_; rintro e w10 ⟨rfl, hb⟩
            have B10 := Hd.mk (B9.out.trans (hb.mono B9.out.size))
            clear hb
            go_wp2_with fail
            refine (awake23_any _).mono ?_; rintro e w11 ⟨rfl, hb⟩
            have B11 := Hd.mk (B10.out.trans (hb.mono B10.out.size))
            clear hb
            go_wp2_with fail
            go_ret
            exact ⟨rfl, B11.out⟩
      · have hq := HQ2.out hE0
        subst hq
        have d3 : (E != 0) = true := by rw [bne_iff_ne]; exact hE0
        clear hE0 HQ HQ2 HG
        go_wp2_with fail
        refine (awake23_any _).mono ?_; rintro e w6 ⟨rfl, hb⟩
        have B6 := Hd.mk (BWw.out.trans (hb.mono BWw.out.size))
        clear hb
        go_wp2_with fail
        go_ret
        exact ⟨rfl, B6.out⟩
  have HX := Hd.mk (HXG.out (W.alloc (.cells #[] 40)) p rfl (B3.out.trans (BE.out.mono B3.out.size)))
  clear HXG HN0 hnil
  go_wp2_with (at_builtin; refine wpList_append_own _ rfl (.tmp 38) (.tmp 39) 22 rfl W.heap.size 40 i0 (.agg #[.int .i64 0, .int .i64 0, .float .f64 0]) 3 24 Try.underlying22 hi hz0 hz1 hz2 rfl (by decide) _ 0 [] rfl OE.out p n c (prV l) rfl HX.out.1 HX.out.2.1 HX.out.2.2 HMx.out.1 HMx.out.2.1 (by simp) ?_)
  intro v3 w3 ho hg he
  try simp only [Nat.zero_add, List.nil_append] at ho
  have OW := Hd.mk ho
  have BW3 := Hd.mk (below_grown BE.out hg (fun k hk => (OE.out.lt k hk).1) BE.out.size)
  have hs3 : W.heap.size ≤ w3.heap.size := BW3.out.size
  clear ho hg he OE HX
  go_wp2_with (at_builtin; refine wpList_append_own _ rfl (.tmp 40) (.tmp 42) 22 rfl W.heap.size 40 i0 (.agg #[.int .i64 0, .int .i64 0, .float .f64 0]) 3 24 Try.underlying22 hi hz0 hz1 hz2 rfl (by decide) v3 n (prV l) rfl (OW.out.alloc _) ⟨w3.heap.size, 0, none⟩ 1 1 [.int .i64 77, .int .i64 0, .float .f64 0] rfl rfl (by
    intro j u hj
    match j, hj with
    | 0, hj => simp at hj; subst hj; simp [Addr.add]
    | 1, hj => simp at hj; subst hj; simp [Addr.add]
    | 2, hj => simp at hj; subst hj; simp [Addr.add]) (by intro u hu; simp at hu; rcases hu with rfl | rfl | rfl <;> rfl) HMx.out.2.2.1 HMx.out.2.2.2 (by simp; omega) ?_)
  intro v4 w4 ho hg he
  have hpv : prV l ++ [.int .i64 77, .int .i64 0, .float .f64 0] = prV (l ++ [q77]) := (prV_snoc l q77).symm
  rw [hpv] at ho
  obtain ⟨g, cap, rfl, hgb, hrow⟩ := PRow.of_own ho (by rw [O1.out]) O2.out O3.out (by simp)
  rw [O1.out]
  have BW4 := Hd.mk (BW3.out.trans (((Below.refl W.heap.size w3).alloc hs3 _).grown hg (by simp; omega) (fun k hk => (OW.out.lt k hk).1)))
  have HR4 := Hd.mk hrow
  have HGB : Hd (W.heap.size ≤ g) := ⟨hgb⟩
  have hcap := hrow.max
  have hcap' := hrow.le
  rw [O1.out] at hcap'
  have hle : n ≤ cap := by omega
  obtain ⟨x1, x2, x3⟩ := hrow.cell n (by rw [O1.out]; omega)
  have h77 := O5.out
  rw [h77] at x1 x2 x3
  have HNa := Hd.mk (HNw.out (some ⟨g, 0, none⟩) cap w4 hrow.pre)
  clear ho hg he hrow hgb OW BW3 hs3 hpv HMx hi hz0 hz1 hz2 BE HNw h77
  unfold q77 at x1 x2 x3
  dsimp only at x1 x2 x3
  go_upto_region 5 with fail
  go_wp2_with fail
  refine HNa.out.mono ?_
  rintro e w5 ⟨q, rfl, hq1, hq2, hb⟩
  have HQ1 := Hd.mk hq1
  have HQ2 := Hd.mk hq2
  have BW5 := Hd.mk (BW4.out.trans (hb.mono BW4.out.size))
  have HR5 := Hd.mk (HR4.out.below hb)
  have y1 := cell_trP hb x1
  have y2 := cell_trP hb x2
  have y3 := cell_trP hb x3
  have hs4 : g < w4.heap.size := HR4.out.lt
  have xE : (E != E) = false := by simp
  clear hq1 hq2 hb HNa x1 x2 x3 HR4 BW4
  have nq := fun w => neq77 w
  have gq := fun x y w => guard77 x y w
  go_upto_region 8 with fail
  clear nq gq y1 y2 y3
  have Q5 : Hd (E = 0 → ∃ tb, q = some ⟨tb, 0, none⟩ ∧ g ≠ tb ∧ OwnTab w5 w4.heap.size tb l) := ⟨fun h => by
    obtain ⟨tb, e, h1, h2⟩ := HQ1.out h
    exact ⟨tb, e, by omega, h2⟩⟩
  have L5 : Hd ((l ++ [q77]).length = n + 1) := ⟨O1.out⟩
  have G5 : Hd (∀ i, 0 ≤ i → i < n → (l ++ [q77]).getD i pr0 = l.getD i pr0) := ⟨fun i _ h => O4.out i h⟩
  clear HQ1 O1 O2 O3 O4 O5 xE
  go_wp2_with fail
  go_loopw [14] (fun iv wr => ∃ (k : Nat) (mm : List Pr), k ≤ n ∧ iv = .int .i64 k ∧ Hd (mm.length = n + 1) ∧ Hd (∀ i, k ≤ i → i < n → mm.getD i pr0 = l.getD i pr0) ∧ Hd (PRow wr g cap mm) ∧ Hd (Below W.heap.size W wr) ∧ Hd (E = 0 → ∃ tb, q = some ⟨tb, 0, none⟩ ∧ g ≠ tb ∧ OwnTab wr w4.heap.size tb l)) (fun iv _ => n - (intOf iv).toNat)
  case atStart => exact ⟨0, l ++ [q77], Nat.zero_le _, rfl, L5, G5, HR5, BW5, Q5⟩
  case round =>
    clear HR5 BW5 Q5 L5 G5
    obtain ⟨k, mm, hk, rfl, HLn, HGt, HR, BW, HQ⟩ := hrel
    by_cases hlt : k < n
    · have hlt' : (k : Int) < n := by omega
      have k0 : (0 : Int) ≤ k := by omega
      have hkn : (k : Int) < (n : Int) + 1 := by omega
      have lk : k < mm.length := by rw [HLn.out]; omega
      obtain ⟨c1, c2, c3⟩ := HR.out.cell k lk
      have hgk := HGt.out k (Nat.le_refl _) hlt
      rw [hgk] at c1 c2 c3
      obtain ⟨bb, oo, hb, d1', d2', d3'⟩ := (HL.out.below (B3.out.trans (BW.out.mono B3.out.size))).cell k (by rw [HN.out]; exact hlt)
      cases hb
      have hok : PrOk ⟨1, 1, 13830554455654793216⟩ := ⟨⟨by decide⟩, by decide, by decide⟩
      obtain ⟨s1, s2, s3, s4⟩ := HR.out.asks k ⟨1, 1, 13830554455654793216⟩ lk
      have fz0 : ∀ i, wr.frozen? ⟨g, i, none⟩ = false := HR.out.frozen
      have HS := Hd.mk (HR.out.set k ⟨1, 1, 13830554455654793216⟩ lk hok)
      have HG2 : Hd (∀ i, k + 1 ≤ i → i < n → (mm.set k ⟨1, 1, 13830554455654793216⟩).getD i pr0 = l.getD i pr0) := ⟨fun i h1 h2 => by
        rw [getD_setP _ _ _ _ lk, if_neg (by omega)]; exact HGt.out i (by omega) h2⟩
      have HL2 : Hd ((mm.set k ⟨1, 1, 13830554455654793216⟩).length = n + 1) := ⟨by rw [List.length_set]; exact HLn.out⟩
      rw [hgk] at s1 s2
      generalize l.getD k pr0 = pk at *
      obtain ⟨pa, pb, px⟩ := pk
      dsimp only at c1 c2 c3 d1' d2' d3' s1 s2 s3 s4
      have x1 : ((pa : Int) != (pa : Int)) = false := by simp
      have x2 : ((pb : Int) != (pb : Int)) = false := by simp
      have x3 : ((px : Int) != (px : Int)) = false := by simp
      clear hlt hgk lk hok HGt HLn
      go_upto_region 11 with fail
      go_quiet ((go_at_call 16; exact Calls.quiet_of_same ((apiBits_any _ _).mono fun _ _ h => ⟨h.1, h.2.symm⟩)))
      go_wp2_with fail
      exact ⟨⟨k + 1, mm.set k ⟨1, 1, 13830554455654793216⟩, by omega, by go_num, HL2, HG2, ⟨HS.out.same rfl⟩, ⟨set3_below (below_drewN BW.out _) HGB.out k ⟨1, 1, 13830554455654793216⟩⟩, ⟨fun h => by
        obtain ⟨tb, e, h1, h2⟩ := HQ.out h
        exact ⟨tb, e, h1, OwnTab.setP (k := k) (p := ⟨1, 1, 13830554455654793216⟩) (h2.below (below_drewN (Below.refl _ _) _)) hs4 h1⟩⟩⟩, by simp [intOf]; omega⟩
    · obtain rfl : n = k := by omega
      have BWw := Hd.mk (B3.out.trans (BW.out.mono B3.out.size))
      clear HR HGt HLn hlt hs4 HGB
      generalize wr = wo at *
      by_cases hE0 : E = 0
      · subst hE0
        obtain ⟨tb, hq, _, hown⟩ := HQ.out rfl
        subst hq
        have HTb := Hd.mk hown.tab
        have G := Hd.mk (HG.out rfl)
        have HCv := Hd.mk fun w' T' h => fxConvert_any l G.out tb am m cm tc w' T' h
        unfold ConvRet at HCv
        rw [HNM.out] at HCv
        have TC : Hd (-9223372036854775808 ≤ tc ∧ tc ≤ 9223372036854775807) := ⟨by
          have h2 := HT.out
          have h3 : IntKind.min .i64 = -9223372036854775808 := by decide
          have h4 : IntKind.max .i64 = 9223372036854775807 := by decide
          simp only [Lit.wf, Bool.and_eq_true, decide_eq_true_eq, h3, h4] at h2
          exact h2⟩
        clear hown HQ HQ2
        go_wp2_with fail
        refine (HCv.out _ HTb.out (HM.out.below BWw.out)).mono ?_
        rintro e w6 ⟨⟨hz, a6, c6, rfl, ho⟩ | ⟨hz, rfl⟩, hb⟩
        · have B6 := Hd.mk (BWw.out.trans (hb.mono BWw.out.size))
          have BW6 := Hd.mk (BW.out.trans (hb.mono BW.out.size))
          have T6 := Hd.mk (HTb.out.below hb)
          have hsz6 : wo.heap.size ≤ w6.heap.size := hb.size
          have hra := rowA_of (w5 := wo) (by rw [HNM.out]; exact ho) TC.out HM.out.rg
          have HRA := Hd.mk hra
          have S6 : Hd (W.heap.size ≤ wo.heap.size) := ⟨BW.out.size⟩
          have HZ := Hd.mk hz
          clear hb ho hra hz
          go_wp2_with fail
          refine (HCv.out _ T6.out (HM.out.below B6.out)).mono ?_
          rintro e w7 ⟨⟨_, a7, c7, rfl, ho⟩ | ⟨hz, _⟩, hb⟩
          rotate_left
          · exact absurd HZ.out hz
          have BW7 := Hd.mk (BW6.out.trans (hb.mono BW6.out.size))
          have HRA7 := Hd.mk (HRA.out.below hb)
          have O7 := Hd.mk ho
          have S7 : Hd (wo.heap.size ≤ w6.heap.size) := ⟨hsz6⟩
          clear hb ho T6 HRA BW6 B6 HCv
          go_wp2_with fail
          go_loopw [19] (fun iv wr => ∃ k : Nat, k ≤ nm ∧ iv = .int .i64 k ∧ Hd (RowA m wo w6 wr a6 c6) ∧ Hd (Below W.heap.size W wr) ∧ Hd (wr.ownsRow w6.heap.size 54 3 (.slice a7 nm c7) nm (flV (m.map (cvF l tc))))) (fun iv _ => nm - (intOf iv).toNat)
          case atStart => exact ⟨0, Nat.zero_le _, rfl, HRA7, BW7, O7⟩
          case round =>
            clear HRA7 BW7 O7
            obtain ⟨k, hk, rfl, HRv, BWv, OV⟩ := hrel
            by_cases hlt : k < nm
            · have hlt' : (k : Int) < nm := by omega
              have k0 : (0 : Int) ≤ k := by omega
              rcases HRv.out with h0 | ⟨g6, mm, rfl, hml, hrow, hg6, hg6'⟩
              · exact absurd h0 (by rw [HNM.out]; omega)
              have lk : k < mm.length := by rw [hml, HNM.out]; exact hlt
              obtain ⟨c1', c2', c3'⟩ := hrow.cell k lk
              obtain ⟨s1, s2, s3, s4⟩ := hrow.asks k ⟨-1, 0, 0⟩ lk
              have fz0 : ∀ i, wr.frozen? ⟨g6, i, none⟩ = false := hrow.frozen
              have hok : FwOk ⟨-1, 0, 0⟩ := ⟨⟨by decide⟩, by decide, by decide⟩
              have hset := hrow.set k ⟨-1, 0, 0⟩ lk hok
              have HS : Hd (RowA m wo w6 (setF3 wr g6 k ⟨-1, 0, 0⟩) (some ⟨g6, 0, none⟩) c6) := ⟨Or.inr ⟨g6, _, rfl, by rw [List.length_set]; exact hml, hset, hg6, hg6'⟩⟩
              have HO2 : Hd ((setF3 wr g6 k ⟨-1, 0, 0⟩).ownsRow w6.heap.size 54 3 (.slice a7 nm c7) nm (flV (m.map (cvF l tc)))) := ⟨ownsRow_setF3 OV.out hg6' _⟩
              have HB2 : Hd (Below W.heap.size W (setF3 wr g6 k ⟨-1, 0, 0⟩)) := ⟨setF3_below BWv.out (by have := S6.out; omega) k ⟨-1, 0, 0⟩⟩
              clear hlt hml hrow hg6 hg6' lk hok hset HRv OV BWv
              dsimp only at s1 s2 s3 s4
              go_wp2_with fail
              exact ⟨⟨k + 1, by omega, by go_num, HS, HB2, HO2⟩, by simp [intOf]; omega⟩
            · obtain rfl : nm = k := by omega
              obtain ⟨l1, l2, l3⟩ := cv_ok l tc TC.out HM.out.rg
              have LV := Hd.mk l1
              have LW := Hd.mk l2
              have LR := Hd.mk l3
              have BD0 := B3.out.trans (BWv.out.mono B3.out.size)
              have tb1 := T0.out.belowB BWv.out T0.out.lt
              have b1' : wr.drew.cell? ⟨w2.heap.size, 0, none⟩ = some (.slice a2 n2 c2) := tb1.cell
              have BD : Hd (Below w.heap.size w wr.drew) := ⟨BD0.drew⟩
              have FD : Hd (Flws wr.drew am m) := ⟨HM.out.below BD0.drew⟩
              have hu3 := U3.out (by first | rfl | trivial)
              obtain ⟨hn2, hu4⟩ := hu3
              have PD : Hd (PrsU wr.drew a2 l) := ⟨(hu4.below BWv.out).below (Below.refl _ _).drew⟩
              have HO14 := Hd.mk fun w' h => of14_any am m cm w' h (by rw [HNM.out]; omega)
              unfold OfFl at HO14
              rw [HNM.out] at HO14
              have HRC : Hd (∀ w' a8 c8, PrsU w' a2 l → FlwsU w' a8 m → Calls Try.prog 29 #[.agg #[.slice a2 n2 c2], .slice a8 nm c8, .int .i64 tc] w' fun e w9 => ∃ a9 c9, e = .returned (.tuple #[.slice a9 nm c9, .int .i64 0]) ∧ FlwsU w9 a9 (m.map (cvF l tc)) ∧ Below w'.heap.size w' w9) := ⟨fun w' a8 c8 h h' => by
                have hc := rFxConvert_any l G.out a2 c2 a8 m c8 tc w' h h'
                rw [HN.out, HNM.out, ← hn2] at hc
                refine hc.mono fun e w9 he => ?_
                obtain ⟨⟨_, a9, c9, e1, ho9⟩ | ⟨hne, _⟩, hb⟩ := he
                · rw [HNM.out] at e1 ho9
                  exact ⟨a9, c9, e1, own_flwsU ho9 (LV.out.trans HNM.out) LW.out LR.out (by rw [LV.out, HNM.out]; omega), hb⟩
                · exact absurd HZ.out hne⟩
              have FB : Hd (Flws wr a7 (m.map (cvF l tc))) := ⟨own_flwsL OV.out (LV.out.trans HNM.out) LW.out LR.out (by rw [LV.out, HNM.out]; omega)⟩
              have HSm := Hd.mk fun w' a9 c9 h h' => same14_any a7 (m.map (cvF l tc)) c7 a9 c9 w' h h'
              rw [LV.out, HNM.out] at HSm
              clear hu4 hn2 tb1 BD0 l1 l2 l3 HRv OV hlt hk
              go_upto_region 22 with fail
              go_region_held3 (fun w' => w'.cell? ⟨w2.heap.size, 0, none⟩ = some (.slice a2 n2 c2)) (first | with_reducible exact b1' | with_reducible exact b2' | with_reducible exact b3' | go_simp) (
                first
                | (
                go_at_call 30
                refine (HO14.out _ FD.out).mono ?_
                rintro en w8 ⟨a8, c8, rfl, hu8, hb⟩
                have b2' := cell_trP hb b1'
                have U8 := Hd.mk hu8
                have P8 := Hd.mk (PD.out.below hb)
                have F8 := Hd.mk ((FB.out.below (Below.refl _ _).drew).below hb)
                have B8 : Hd (Below w.heap.size w w8) := ⟨BD.out.trans (hb.mono BD.out.size)⟩
                clear hu8 hb)
                | (
                go_at_call 29
                refine (HRC.out _ _ _ P8.out U8.out).mono ?_
                rintro en w9 ⟨a9, c9, rfl, hu9, hb⟩
                have b3' := cell_trP hb b2'
                have F9 := Hd.mk (F8.out.below hb)
                have U9 := Hd.mk hu9
                have B9 : Hd (Below w.heap.size w w9) := ⟨B8.out.trans (hb.mono B8.out.size)⟩
                clear hb hu9))
              clear b1' b2' b3' P8 U8 F8 B8 PD FD BD
              go_wp2_with fail
              refine (HSm.out _ _ _ F9.out U9.out).mono ?_; rintro e w10 ⟨rfl, hb⟩
              have B10 := Hd.mk (B9.out.trans (hb.mono B9.out.size))
              clear hb
              go_wp2_with fail
              refine (awake23_any _).mono ?_; rintro e w11 ⟨rfl, hb⟩
              have B11 := Hd.mk (B10.out.trans (hb.mono B10.out.size))
              clear hb
              go_wp2_with fail
              go_ret
              exact ⟨rfl, B11.out⟩
        · have B6 := Hd.mk (BWw.out.trans (hb.mono BWw.out.size))
          have BW6 := Hd.mk (BW.out.trans (hb.mono BW.out.size))
          have T6 := Hd.mk (HTb.out.below hb)
          have HZ := Hd.mk hz
          clear hb hz
          go_wp2_with fail
          refine (HCv.out _ T6.out (HM.out.below B6.out)).mono ?_
          rintro e w7 ⟨⟨hz, _⟩ | ⟨_, rfl⟩, hb⟩
          · exact absurd hz HZ.out
          have BW7 := Hd.mk (BW6.out.trans (hb.mono BW6.out.size))
          clear hb T6 BW6 B6 HCv
          go_wp2_with fail
          go_loopw [19] (fun iv wr => iv = .int .i64 0 ∧ Hd (Below W.heap.size W wr)) (fun iv _ => 0)
          case atStart => exact ⟨rfl, BW7⟩
          case round =>
            clear BW7
            obtain ⟨rfl, BWv⟩ := hrel
            have BD0 := B3.out.trans (BWv.out.mono B3.out.size)
            have tb1 := T0.out.belowB BWv.out T0.out.lt
            have b1' : wr.drew.cell? ⟨w2.heap.size, 0, none⟩ = some (.slice a2 n2 c2) := tb1.cell
            have BD : Hd (Below w.heap.size w wr.drew) := ⟨BD0.drew⟩
            have FD : Hd (Flws wr.drew am m) := ⟨HM.out.below BD0.drew⟩
            obtain ⟨hn2, hu4⟩ := U3.out (by first | rfl | trivial)
            have PD : Hd (PrsU wr.drew a2 l) := ⟨(hu4.below BWv.out).below (Below.refl _ _).drew⟩
            have HO14 := Hd.mk fun w' h => of14_any am m cm w' h (by rw [HNM.out]; omega)
            unfold OfFl at HO14
            rw [HNM.out] at HO14
            have HRC : Hd (∀ w' a8 c8, PrsU w' a2 l → FlwsU w' a8 m → Calls Try.prog 29 #[.agg #[.slice a2 n2 c2], .slice a8 nm c8, .int .i64 tc] w' fun e w9 => e = .returned (.tuple #[.slice none 0 0, .int .i64 (cvE l m tc)]) ∧ Below w'.heap.size w' w9) := ⟨fun w' a8 c8 h h' => by
              have hc := rFxConvert_any l G.out a2 c2 a8 m c8 tc w' h h'
              rw [HN.out, HNM.out, ← hn2] at hc
              refine hc.mono fun e w9 he => ?_
              obtain ⟨⟨hne, _⟩ | ⟨_, e1⟩, hb⟩ := he
              · exact absurd hne HZ.out
              · exact ⟨e1, hb⟩⟩
            have HSm := Hd.mk fun w' => same14_any none [] 0 none 0 w' (Flws.nil w' none) (FlwsU.nil w' none)
            rw [show ([] : List Fw).length = 0 from rfl] at HSm
            clear hu4 hn2 tb1 BD0
            generalize cvE l m tc = CE at *
            have x9 : (CE == CE) = true := by simp
            go_upto_region 22 with fail
            go_region_held3 (fun w' => w'.cell? ⟨w2.heap.size, 0, none⟩ = some (.slice a2 n2 c2)) (first | with_reducible exact b1' | with_reducible exact b2' | with_reducible exact b3' | go_simp) (
              first
              | (
              go_at_call 30
              refine (HO14.out _ FD.out).mono ?_
              rintro en w8 ⟨a8, c8, rfl, hu8, hb⟩
              have b2' := cell_trP hb b1'
              have U8 := Hd.mk hu8
              have P8 := Hd.mk (PD.out.below hb)
              have B8 : Hd (Below w.heap.size w w8) := ⟨BD.out.trans (hb.mono BD.out.size)⟩
              clear hu8 hb)
              | (
              go_at_call 29
              refine (HRC.out _ _ _ P8.out U8.out).mono ?_
              rintro en w9 ⟨rfl, hb⟩
              have b3' := cell_trP hb b2'
              have B9 : Hd (Below w.heap.size w w9) := ⟨B8.out.trans (hb.mono B8.out.size)⟩
              clear hb))
            clear b1' b2' b3' P8 U8 B8 PD FD BD
            go_wp2_with fail
            refine (HSm.out _).mono ?_; rintro e w10 ⟨rfl, hb⟩
            have B10 := Hd.mk (B9.out.trans (hb.mono B9.out.size))
            clear hb
            go_wp2_with fail
            refine (awake23_any _).mono ?_; rintro e w11 ⟨rfl, hb⟩
            have B11 := Hd.mk (B10.out.trans (hb.mono B10.out.size))
            clear hb
            go_wp2_with fail
            go_ret
            exact ⟨rfl, B11.out⟩
      · have hq := HQ2.out hE0
        subst hq
        have d3 : (E != 0) = true := by rw [bne_iff_ne]; exact hE0
        clear hE0 HQ HQ2 HG
        go_wp2_with fail
        refine (awake23_any _).mono ?_; rintro e w6 ⟨rfl, hb⟩
        have B6 := Hd.mk (BWw.out.trans (hb.mono BWw.out.size))
        clear hb
        go_wp2_with fail
        go_ret
        exact ⟨rfl, B6.out⟩

end Go.Proofs.Ythddkfkgnkbpnaa

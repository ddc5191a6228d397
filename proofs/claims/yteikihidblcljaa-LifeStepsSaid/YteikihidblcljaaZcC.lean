/- The walks of slices.Clip, slices.Clone at flows, of life's Left, told, Cash, Day. -/
import Derived.Test.YteikihidblcljaaZbC
import Derived.Test.YteikihidblcljaaCeC
import Derived.Test.YteikihidblcljaaM10
import Derived.Lib.SliceRun
namespace Go.Proofs.Yteikihidblcljaa
open Go.RowKit
set_option linter.unusedSimpArgs false
set_option linter.unusedVariables false

set_option maxHeartbeats 800000 in
theorem clipF_any (p : Addr) (n c : Nat) (hn : n ≤ c) (hc : c ≤ 9223372036854775807) (w : World) :
    Calls Try.prog 93 #[.slice (some p) n c] w fun e w' => e = .returned (.slice (some p) n n) ∧ w = w' := by
  go_enter Try.func93, Try.ntmps93
  go_wp2_with fail
  go_ret
  exact ⟨rfl, rfl⟩
set_option maxHeartbeats 800000 in
theorem clipF_none (w : World) :
    Calls Try.prog 93 #[.slice none 0 0] w fun e w' => e = .returned (.slice none 0 0) ∧ w = w' := by
  go_enter Try.func93, Try.ntmps93
  go_wp2_with fail
  go_ret
  exact ⟨rfl, rfl⟩
/-- A list of flows in memory of the call's own. -/
def FrRet (L : List Fw) (w : World) (a : Option Addr) (w' : World) : Prop :=
  Flws w' a L ∧ (L.length = 0 ∨ ∃ g cap, a = some ⟨g, 0, none⟩ ∧ w.heap.size ≤ g ∧ FlRow w' g cap L)
/-- What Clone returns. -/
def ClnRet (L : List Fw) (w : World) (e : Ending) (w' : World) : Prop :=
  ∃ a c, e = .returned (.slice a L.length c) ∧ FrRet L w a w' ∧ ((a = none ∧ L.length = 0 ∧ c = 0) ∨ ∃ p, a = some p ∧ L.length ≤ c ∧ c ≤ 9223372036854775807) ∧ Below w.heap.size w w'
theorem ownsRow_flws {w : World} {base n c : Nat} {a : Option Addr} {l : List Fw} (h : w.ownsRow base 74 3 (.slice a n c) n (flV l)) (hn : l.length = n) (hw : ∀ k, F64 (l.getD k fw0).x) (hr : ∀ k, (-9223372036854775808 ≤ (l.getD k fw0).d ∧ (l.getD k fw0).d ≤ 9223372036854775807) ∧ (-9223372036854775808 ≤ (l.getD k fw0).c ∧ (l.getD k fw0).c ≤ 9223372036854775807)) (hl : l.length ≤ 9223372036854775807) : Flws w a l := by
  rcases h.2 with ⟨e, e2⟩ | ⟨g, cap, cur, e, _⟩
  · have : l = [] := List.length_eq_zero_iff.1 (by omega)
    subst this
    exact Flws.nil _ _
  · have ea : a = some ⟨g, 0, none⟩ := by simp at e; exact e.1
    subst ea
    refine ⟨fun k hk => ⟨g, 0, rfl, ?_⟩, hw, hr, hl⟩
    obtain ⟨c1, c2, c3⟩ := flV_get l k hk
    have ha : ∀ i, (⟨g, 0, none⟩ : Addr).add i = ⟨g, 0 + i, none⟩ := fun i => by by_cases h0 : i = 0 <;> simp [Addr.add, h0]
    have k1 := h.cells rfl _ _ c1
    have k2 := h.cells rfl _ _ c2
    have k3 := h.cells rfl _ _ c3
    rw [ha] at k1 k2 k3
    exact ⟨k1, k2, k3⟩

set_option maxHeartbeats 1600000 in
set_option maxRecDepth 100000 in
theorem cloneF_any {base : Nat} (a : Option Addr) (L : List Fw) (c : Nat) (w : World) (ho : w.ownsRow base 74 3 (.slice a L.length c) L.length (flV L)) (hw : ∀ k, F64 (L.getD k fw0).x) (hr : ∀ k, (-9223372036854775808 ≤ (L.getD k fw0).d ∧ (L.getD k fw0).d ≤ 9223372036854775807) ∧ (-9223372036854775808 ≤ (L.getD k fw0).c ∧ (L.getD k fw0).c ≤ 9223372036854775807)) (h4k : L.length ≤ 4096) :
    Calls Try.prog 95 #[.slice a L.length c] w (ClnRet L w) := by
  have hn := ho.1
  have qe : ∀ (w : World) (a : Option Addr) (n c n' c' : Nat), (binOp .eql 67 (.slice a n c) (.slice none n' c')).run Try.prog w = .ok (.bool a.isNone) w := fun w a n c n' c' => Lib.run_eql_slice_nil w _ _ a n c n' c' Try.underlying67
  rcases ho.2 with ⟨e, e2⟩ | ⟨g, cap, cur, e, hbg, hg, hnc, hcm, hcs, htake⟩
  · have hl0 : L = [] := List.length_eq_zero_iff.1 e2
    subst hl0
    simp at e
    obtain ⟨rfl, rfl⟩ := e
    clear ho hn hw hr h4k e2
    rw [show ([] : List Fw).length = 0 from rfl]
    go_enter Try.func95, Try.ntmps95
    go_wp2_with fail
    go_ret
    exact ⟨none, 0, rfl, ⟨Flws.nil _ _, Or.inl rfl⟩, Or.inl ⟨rfl, rfl, rfl⟩, Below.refl _ _⟩
  · simp at e
    obtain ⟨rfl, rfl⟩ := e
    have HO := Hd.mk ho
    have HW := Hd.mk hw
    have HR := Hd.mk hr
    obtain ⟨i0, hi, hz0, hz1, hz2⟩ := info_partsF
    have OE : Hd ((w.alloc (.cells #[] 74)).ownsRow w.heap.size 74 3 (.slice (some ⟨w.heap.size, 0, none⟩) 0 0) 0 []) := ⟨World.ownsRow_made w #[] 0 (Nat.le_refl _) (by decide) rfl⟩
    have B0 : Hd (Below w.heap.size w (w.alloc (.cells #[] 74))) := ⟨(Below.refl _ _).alloc (Nat.le_refl _) _⟩
    have HX : Hd ((flV L).length = L.length * 3 ∧ (∀ j u, (flV L)[j]? = some u → (w.alloc (.cells #[] 74)).cell? ((⟨g, 0, none⟩ : Addr).add j) = some u) ∧ (∀ u ∈ flV L, u.oneCell' = true)) := ⟨flV_len L, (ho.alloc _).cells rfl, flV_one L⟩
    obtain ⟨n, hN⟩ : ∃ n, L.length = n := ⟨_, rfl⟩
    have HN := Hd.mk hN
    rw [hN] at h4k hnc HX ⊢
    have HM : Hd (0 + n ≤ maxLen ∧ (0 + n) * 24 ≤ 140737488355328) := ⟨by unfold maxLen; omega, by omega⟩
    have hcm' : c ≤ 9223372036854775807 := Nat.le_trans hcm (by unfold maxLen; decide)
    clear ho hn hw hr hg hcs htake hN hcm
    go_enter Try.func95, Try.ntmps95
    go_wp2_with (at_builtin; refine wpList_append_own _ rfl (.tmp 5) (.tmp 6) 67 rfl w.heap.size 74 i0 (.agg #[.int .i64 0, .float .f64 0, .int .i64 0]) 3 24 Try.underlying67 hi hz0 hz1 hz2 rfl (by decide) _ 0 [] rfl OE.out ⟨g, 0, none⟩ n c (flV L) rfl HX.out.1 HX.out.2.1 HX.out.2.2 HM.out.1 HM.out.2 (by simp) ?_)
    intro v' w1 ho hg he
    try simp only [Nat.zero_add, List.nil_append] at ho
    have HB := Hd.mk (below_grown B0.out hg (fun k hk => (OE.out.lt k hk).1) B0.out.size)
    rcases ho.2 with ⟨rfl, e2⟩ | ⟨g', cap', cur', rfl, hbg', hgg', hnc', hcm2, _, _⟩
    · exact absurd rfl (by first | exact he | exact fun e => absurd ((he.1 e).1) (by simp))
    · have HF := Hd.mk (ownsRow_flws ho HN.out HW.out HR.out (by rw [HN.out]; omega))
      have HFr : Hd (L.length = 0 ∨ ∃ g cap, (some ⟨g', 0, none⟩ : Option Addr) = some ⟨g, 0, none⟩ ∧ w.heap.size ≤ g ∧ FlRow w1 g cap L) := ⟨by
        by_cases h0 : L.length = 0
        · exact Or.inl h0
        · obtain ⟨g2, cap2, e, hb2, hrow⟩ := FlRow.of_own ho HN.out.symm HW.out HR.out (fun e => h0 (by rw [e]; rfl))
          simp at e
          exact Or.inr ⟨g2, cap2, by rw [e.1], hb2, hrow⟩⟩
      have hc2 : cap' ≤ 9223372036854775807 := Nat.le_trans hcm2 (by unfold maxLen; decide)
      have HCc := Hd.mk hc2
      have HNc := Hd.mk hnc'
      clear ho hg he
      go_wp2_with fail
      go_ret
      exact ⟨some ⟨g', 0, none⟩, cap', by rw [HN.out]; rfl, ⟨HF.out, HFr.out⟩, Or.inr ⟨_, rfl, by rw [HN.out]; exact HNc.out, HCc.out⟩, HB.out⟩

end Go.Proofs.Yteikihidblcljaa

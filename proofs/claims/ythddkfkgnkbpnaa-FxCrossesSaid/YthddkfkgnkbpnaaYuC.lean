/- The walk of tenorlaw23's FxCrosses. -/
import Derived.Test.YthddkfkgnkbpnaaYrC
import Derived.Test.YthddkfkgnkbpnaaM18
import Derived.Test.YthddkfkgnkbpnaaM1
namespace Go.Proofs.Ythddkfkgnkbpnaa
open Go.RowKit
set_option linter.unusedSimpArgs false
set_option linter.unusedVariables false

theorem newA_good {l : List Pr} (hw : ∀ i, F64 (l.getD i pr0).x) (h : (newA l).1 = 0) : Good l := by
  unfold newA at h
  split at h
  · simp at h
  · have := newT_good l hw l.length (Nat.le_refl _) h
    rwa [List.take_of_length_le (Nat.le_refl _)] at this

set_option maxHeartbeats 3200000 in
set_option maxRecDepth 100000 in
theorem fxCrosses_any (ad : Option Addr) (l : List Pr) (c : Nat) (a b : Int) (w : World) (hl : Prs w ad l) (_hr : Room ad l.length c) (_ha : (Lit.int .i64 a).wf = true) (_hb : (Lit.int .i64 b).wf = true) :
    Calls Try.prog 6 #[.slice ad l.length c, .int .i64 a, .int .i64 b] w fun e w' => e = .returned (.bool true) ∧ Below w.heap.size w w' := by
  have hlen := hl.len
  by_cases h60 : 60 < l.length
  · have d1 : decide ((l.length : Int) > 60) = true := by simp; omega
    generalize l.length = n at *
    clear h60 hl
    go_enter Try.func6, Try.ntmps6
    go_wp2_with fail
    refine (awake23_any _).mono ?_; rintro e w1 ⟨rfl, hb⟩
    have B := Hd.mk hb
    clear hb
    go_wp2_with fail
    go_ret
    exact ⟨rfl, B.out⟩
  have d1 : decide ((l.length : Int) > 60) = false := by simp; omega
  have HM := Hd.mk (made23_any ad l c w hl (by omega))
  have HWf := Hd.mk hl.wf
  unfold MadeRet at HM
  have HC := Hd.mk fun (g : Good l) tb w1 (h : TabIs w1 tb l) => cross_any l g tb a b w1 h
  have HRC := Hd.mk fun (g : Good l) au cu w1 (h : PrsU w1 au l) => rCross_any l g au cu a b w1 h
  have HJ := Hd.mk fun (g : Good l) tb w1 (h : TabIs w1 tb l) => joined_any l g tb a b w1 h
  have HRJ := Hd.mk fun (g : Good l) au cu w1 (h : PrsU w1 au l) => rJoined_any l g au cu a b w1 h
  have hfv := crsT_F64 l a b
  obtain ⟨V, E, hV⟩ : ∃ V E, crsT l a b = (V, E) := ⟨_, _, rfl⟩
  obtain ⟨U, F, hU⟩ : ∃ U F, jnT l a b = (U, F) := ⟨_, _, rfl⟩
  rw [hV] at HC HRC hfv
  rw [hU] at HJ HRJ
  unfold CrsRet at HC
  unfold CrsRetU at HRC
  dsimp only at HC HRC HJ HRJ hfv
  have HI := Hd.mk fun w1 => is_any V V hfv hfv w1
  rw [same_of_cn rfl] at HI
  have e4 : (E == E) = true := by simp
  have e5 : (F == F) = true := by simp
  have e6 : (U == U) = true := by simp
  generalize hn : l.length = n at *
  clear h60 hl hV hU hfv
  go_enter Try.func6, Try.ntmps6
  go_wp2_with fail
  refine HM.out.mono ?_
  rintro e w1 ⟨⟨hz, tb, au, cu, rfl, ht, _, hp⟩ | ⟨_, rfl⟩, hb⟩
  rotate_left
  · have B := Hd.mk hb
    clear hb
    go_wp2_with fail
    refine (awake23_any _).mono ?_; rintro e w2 ⟨rfl, hb⟩
    have B2 := Hd.mk (B.out.trans ((((Below.refl _ _).alloc (Nat.le_refl _) _).trans (hb.mono (by simp))).mono B.out.size))
    clear hb
    go_wp2_with fail
    go_ret
    exact ⟨rfl, B2.out⟩
  have G := Hd.mk (newA_good HWf.out hz)
  have B1 := Hd.mk hb
  obtain ⟨W, hW, v0, v1⟩ := tboxU1 w1 (.slice au n cu)
  have HW := Hd.mk hW
  have T2 := Hd.mk (ht.tab.below v1)
  have P2 := Hd.mk (hp.below v1)
  have V2 := Hd.mk v0
  have B2 := Hd.mk (B1.out.trans (v1.mono B1.out.size))
  clear hz ht hp hb hW v0 v1 B1
  have r0 := V2.out.cell
  go_upto_region 4 with fail
  rw [HW.out]
  go_wp2_with fail
  refine (HC.out G.out _ _ T2.out).mono ?_; rintro e w3 ⟨rfl, hb⟩
  have T3 := Hd.mk (T2.out.below hb)
  have P3 := Hd.mk (P2.out.below hb)
  have V3 := Hd.mk (V2.out.below hb)
  have B3 := Hd.mk (B2.out.trans (hb.mono B2.out.size))
  clear hb r0 T2 P2 V2 B2
  have r0 := V3.out.cell
  go_wp2_with fail
  refine (HRC.out G.out _ _ _ P3.out).mono ?_; rintro e w4 ⟨rfl, hb⟩
  have T4 := Hd.mk (T3.out.below hb)
  have P4 := Hd.mk (P3.out.below hb)
  have V4 := Hd.mk (V3.out.below hb)
  have B4 := Hd.mk (B3.out.trans (hb.mono B3.out.size))
  clear hb r0 T3 P3 V3 B3
  go_wp2_with fail
  refine (HJ.out G.out _ _ T4.out).mono ?_; rintro e w5 ⟨rfl, hb⟩
  have P5 := Hd.mk (P4.out.below hb)
  have V5 := Hd.mk (V4.out.below hb)
  have B5 := Hd.mk (B4.out.trans (hb.mono B4.out.size))
  clear hb T4 P4 V4 B4
  have r0 := V5.out.cell
  go_wp2_with fail
  refine (HRJ.out G.out _ _ _ P5.out).mono ?_; rintro e w6 ⟨rfl, hb⟩
  have B6 := Hd.mk (B5.out.trans (hb.mono B5.out.size))
  clear hb r0 P5 V5 B5
  go_wp2_with fail
  refine (HI.out _).mono ?_; rintro e w7 ⟨rfl, rfl⟩
  go_wp2_with fail
  refine (awake23_any _).mono ?_; rintro e w8 ⟨rfl, hb⟩
  have B8 := Hd.mk (B6.out.trans (hb.mono B6.out.size))
  clear hb
  go_wp2_with fail
  go_ret
  exact ⟨rfl, B8.out⟩

end Go.Proofs.Ythddkfkgnkbpnaa

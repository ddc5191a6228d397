/- The walk of LifeSteps, for any flows and steps. -/
import Derived.Test.YteikihidblcljaaQvC
namespace Go.Proofs.Yteikihidblcljaa
open Go.RowKit
set_option linter.unusedSimpArgs false
set_option linter.unusedVariables false

set_option maxHeartbeats 6400000 in
set_option maxRecDepth 100000 in
theorem lifeSteps_bad (ad : Option Addr) (l : List Fw) (c : Nat) (cur day : Int) (vs : Value) (en : Int) (w : World) (hl : Flws w ad l) (hz : lnE l cur day ≠ 0) :
    Calls Try.prog 5 #[.slice ad l.length c, .int .i64 cur, .int .i64 day, vs, .int .i64 en] w fun e w' => e = .returned (.bool true) ∧ Below w.heap.size w w' := by
  have HNw := Hd.mk fun w1 (h : Flws w1 ad l) => lifeNew_any ad l c cur day w1 h
  have HP := Hd.mk hl
  unfold LNewRet at HNw
  obtain ⟨E, hE⟩ : ∃ E, lnE l cur day = E := ⟨_, rfl⟩
  rw [hE] at HNw hz
  have HZ := Hd.mk hz
  have d1 : (E != 0) = true := by rw [bne_iff_ne]; exact hz
  have d2 : (E == E) = true := by simp
  generalize l.length = N at *
  clear hl hz hE
  by_cases h60 : 60 < N
  · have d3 : decide ((N : Int) > 60) = true := by simp; omega
    clear h60
    go_enter Try.func5, Try.ntmps5
    go_wp2_with fail
    refine (HNw.out _ HP.out).mono ?_
    rintro e w1 ⟨⟨h, _⟩ | ⟨_, rfl⟩, hb1⟩
    · exact absurd h HZ.out
    have K1 := Hd.mk hb1
    have P1 := Hd.mk (HP.out.below hb1)
    clear hb1
    go_wp2_with fail
    refine (HNw.out _ P1.out).mono ?_
    rintro e w2 ⟨⟨h, _⟩ | ⟨_, rfl⟩, hb2⟩
    · exact absurd h HZ.out
    have K2 := Hd.mk (K1.out.trans (hb2.mono K1.out.size))
    clear hb2
    go_wp2_with fail
    refine (awake24_any _).mono ?_; rintro e w3 ⟨rfl, hb⟩
    have K3 := Hd.mk (K2.out.trans (hb.mono K2.out.size))
    clear hb
    go_wp2_with fail
    go_ret
    exact ⟨rfl, K3.out⟩
  · have d3 : decide ((N : Int) > 60) = false := by simp; omega
    clear h60
    go_enter Try.func5, Try.ntmps5
    go_wp2_with fail
    refine (HNw.out _ HP.out).mono ?_
    rintro e w1 ⟨⟨h, _⟩ | ⟨_, rfl⟩, hb1⟩
    · exact absurd h HZ.out
    have K1 := Hd.mk hb1
    have P1 := Hd.mk (HP.out.below hb1)
    clear hb1
    go_wp2_with fail
    refine (HNw.out _ P1.out).mono ?_
    rintro e w2 ⟨⟨h, _⟩ | ⟨_, rfl⟩, hb2⟩
    · exact absurd h HZ.out
    have K2 := Hd.mk (K1.out.trans (hb2.mono K1.out.size))
    clear hb2
    go_wp2_with fail
    refine (awake24_any _).mono ?_; rintro e w3 ⟨rfl, hb⟩
    have K3 := Hd.mk (K2.out.trans (hb.mono K2.out.size))
    clear hb
    go_wp2_with fail
    go_ret
    exact ⟨rfl, K3.out⟩

set_option maxHeartbeats 6400000 in
set_option maxRecDepth 100000 in
theorem lifeSteps_long (ad : Option Addr) (l : List Fw) (c : Nat) (cur day : Int) (vs : Value) (en : Int) (w : World) (hl : Flws w ad l) (hz : lnE l cur day = 0) (h60 : 60 < l.length) :
    Calls Try.prog 5 #[.slice ad l.length c, .int .i64 cur, .int .i64 day, vs, .int .i64 en] w fun e w' => e = .returned (.bool true) ∧ Below w.heap.size w w' := by
  have HNw := Hd.mk fun w1 (h : Flws w1 ad l) => lifeNew_any ad l c cur day w1 h
  have HP := Hd.mk hl
  unfold LNewRet at HNw
  rw [hz] at HNw
  have d3 : decide ((l.length : Int) > 60) = true := by simp; omega
  generalize l.length = N at *
  clear hl hz h60
  go_enter Try.func5, Try.ntmps5
  go_wp2_with fail
  refine (HNw.out _ HP.out).mono ?_
  rintro e w1 ⟨⟨_, b1, ba1, a1, c1, rfl, _⟩ | ⟨h, _⟩, hb1⟩
  rotate_left
  · exact absurd rfl h
  have K1 := Hd.mk hb1
  have P1 := Hd.mk (HP.out.below hb1)
  clear hb1
  go_wp2_with fail
  refine (HNw.out _ P1.out).mono ?_
  rintro e w2 ⟨⟨_, b2, ba2, a2, c2, rfl, _⟩ | ⟨h, _⟩, hb2⟩
  rotate_left
  · exact absurd rfl h
  have K2 := Hd.mk (K1.out.trans (hb2.mono K1.out.size))
  clear hb2
  go_wp2_with fail
  refine (awake24_any _).mono ?_; rintro e w3 ⟨rfl, hb⟩
  have K3 := Hd.mk (K2.out.trans (hb.mono K2.out.size))
  clear hb
  go_wp2_with fail
  go_ret
  exact ⟨rfl, K3.out⟩

theorem lifeSteps_any (ad : Option Addr) (l : List Fw) (c : Nat) (cur day : Int) (ao : Option Addr) (St : List Int) (cs : Nat) (en : Int) (w : World) (hl : Flws w ad l) (_hr : Room ad l.length c) (_hc : (Lit.int .i64 cur).wf = true) (_hd : (Lit.int .i64 day).wf = true) (hs : Ins w ao St) (_hs2 : Room ao St.length cs) (hen : (Lit.int .i64 en).wf = true) :
    Calls Try.prog 5 #[.slice ad l.length c, .int .i64 cur, .int .i64 day, .slice ao St.length cs, .int .i64 en] w fun e w' => e = .returned (.bool true) ∧ Below w.heap.size w w' := by
  by_cases hz : lnE l cur day = 0
  · by_cases h60 : 60 < l.length
    · exact lifeSteps_long ad l c cur day _ en w hl hz h60
    · refine lifeSteps_main ad l c cur day ao St cs en w hl hs (by omega) hz ?_
      have h2 := hen
      have h3 : IntKind.i64.min = -9223372036854775808 := by decide
      have h4 : IntKind.i64.max = 9223372036854775807 := by decide
      simp only [Lit.wf, Bool.and_eq_true, decide_eq_true_eq, h3, h4] at h2
      exact h2
  · exact lifeSteps_bad ad l c cur day _ en w hl hz

end Go.Proofs.Yteikihidblcljaa

/- The walks of the reference's Same, Check (tenorref14) and asked (tenorref23). -/
import Derived.Test.YteikihidblcljaaGreatChC
import Derived.Test.YteikihidblcljaaGreatM1
import Derived.Test.YteikihidblcljaaGreatM2
import Derived.Test.YteikihidblcljaaGreatM15
import Derived.StillTailTactics
namespace Go.Proofs.YteikihidblcljaaGreat
open Go.RowKit
set_option linter.unusedSimpArgs false
set_option linter.unusedVariables false

theorem same_own (x : Nat) : same x x = true := by unfold same; simp
set_option maxHeartbeats 3200000 in
set_option maxRecDepth 100000 in
theorem same14_any (ad : Option Addr) (l : List Fw) (c : Nat) (au : Option Addr) (cu : Nat) (w : World) (hl : Flws w ad l) (hu : FlwsU w au l) :
    Calls Tryz.prog 14 #[.slice ad l.length c, .slice au l.length cu] w fun e w' => e = .returned (.bool true) ∧ Below w.heap.size w w' := by
  have HF := Hd.mk hl
  have HU := Hd.mk hu
  have hlen := hl.len
  obtain ⟨n, hn⟩ : ∃ n, l.length = n := ⟨_, rfl⟩
  rw [hn] at hlen ⊢
  have HN := Hd.mk hn
  have x0 : ((n : Int) != (n : Int)) = false := by simp
  clear hl hu hn
  go_enter Tryz.func14, Tryz.ntmps14
  go_wp2_with fail
  go_loopw [5] (fun iv wr => ∃ k : Nat, k ≤ n ∧ iv = .int .i64 k ∧ Hd (Below w.heap.size w wr)) (fun iv _ => n - (intOf iv).toNat)
  case atStart => exact ⟨0, Nat.zero_le _, rfl, ⟨Below.refl _ _⟩⟩
  case round =>
    obtain ⟨k, hk, rfl, HB⟩ := hrel
    by_cases hlt : k < n
    · have hlt' : (k : Int) < n := by omega
      have k0 : (0 : Int) ≤ k := by omega
      obtain ⟨bb, oo, rfl, c1, c2, c3⟩ := (HF.out.below HB.out).cell k (by rw [HN.out]; exact hlt)
      obtain ⟨bu, ou, rfl, u1, u2, u3⟩ := (HU.out.below HB.out).cell k (by rw [HN.out]; exact hlt)
      have hF := HF.out.wf k
      generalize l.getD k fw0 = f at *
      obtain ⟨fd, fx, fc⟩ := f
      dsimp only at c1 c2 c3 u1 u2 u3 hF
      have HS : Hd (∀ w, Calls Tryz.prog 51 #[.int .u64 (fx : Nat), .int .u64 (fx : Nat)] w fun e w' => e = .returned (.bool true) ∧ w = w') := ⟨fun w => by
        have := rSame_any fx fx hF hF w
        rwa [same_own] at this⟩
      have x1 : ((fd : Int) != (fd : Int)) = false := by simp
      have x2 : ((fc : Int) != (fc : Int)) = false := by simp
      clear hlt hF
      go_upto_region 6 with fail
      go_quiet (first | (go_at_call 39; exact Calls.quiet_of_same ((apiBits_any _ _).mono fun _ _ h => ⟨h.1, h.2.symm⟩)) | (go_at_call 51; exact Calls.quiet_of_same ((HS.out _).mono fun _ _ h => ⟨h.1, h.2.symm⟩)))
      go_wp2_with fail
      exact ⟨⟨k + 1, by omega, by go_num, ⟨below_drewN HB.out _⟩⟩, by simp [intOf]; omega⟩
    · have hge : ¬ (k : Int) < n := by omega
      clear hlt
      go_wp2_with fail
      go_ret
      exact ⟨rfl, HB.out⟩

set_option maxHeartbeats 800000 in
theorem rCur14_any (n : Int) (w : World) :
    Calls Tryz.prog 62 #[.int .i64 n] w fun e w' => e = .returned (.bool (okCy n)) ∧ w = w' := by
  have H : Hd (okCy n = decide (1 ≤ n ∧ n ≤ 8)) := ⟨rfl⟩
  by_cases h1 : 1 ≤ n
  · have H1 : Hd (okCy n = decide (n ≤ 8)) := ⟨by rw [H.out]; simp [h1]⟩
    clear H
    have d1 : decide (n ≥ 1) = true := by simpa using h1
    clear h1
    go_enter Tryz.func62, Tryz.ntmps62
    go_wp2_with fail
    go_ret
    exact ⟨ret_bool H1.out.symm, rfl⟩
  · have H1 : Hd (false = okCy n) := ⟨by rw [H.out]; simp [h1]⟩
    clear H
    have d1 : decide (n ≥ 1) = false := by simpa using h1
    clear h1
    go_enter Tryz.func62, Tryz.ntmps62
    go_wp2_with fail
    go_ret
    exact ⟨ret_bool H1.out, rfl⟩

set_option maxHeartbeats 3200000 in
set_option maxRecDepth 100000 in
theorem rflowCheck_any (au : Option Addr) (l : List Fw) (c : Nat) (w : World) (hl : FlwsU w au l) :
    Calls Tryz.prog 61 #[.slice au l.length c] w (ChkRet (chkF l) w) := by
  have HF := Hd.mk hl
  have hlen := hl.len
  have HN : Hd (chkF l = if 4096 < l.length then (81, 0) else chkFn l l.length) := ⟨rfl⟩
  generalize chkF l = V at *
  obtain ⟨n, hn⟩ : ∃ n, l.length = n := ⟨_, rfl⟩
  rw [hn] at hlen HN ⊢
  have HL := Hd.mk hn
  clear hl hn
  by_cases h1 : 4096 < n
  · have hv := HN.out
    rw [if_pos h1] at hv
    subst hv
    have d1 : decide ((n : Int) > 4096) = true := by simp; omega
    clear h1
    go_enter Tryz.func61, Tryz.ntmps61
    go_wp2_with fail
    go_ret2
    exact ⟨rfl, Below.refl _ _⟩
  have HV : Hd (V = chkFn l n) := ⟨by rw [HN.out, if_neg h1]⟩
  have d1 : decide ((n : Int) > 4096) = false := by simp; omega
  clear HN h1
  go_enter Tryz.func61, Tryz.ntmps61
  go_wp2_with fail
  go_loopw [4] (fun iv wr => ∃ k : Nat, k ≤ n ∧ iv = .int .i64 k ∧ Hd (chkFn l k = (0, 0)) ∧ Hd (Below w.heap.size w wr)) (fun iv _ => n - (intOf iv).toNat)
  case atStart => exact ⟨0, Nat.zero_le _, rfl, ⟨rfl⟩, ⟨Below.refl _ _⟩⟩
  case round =>
    obtain ⟨k, hk, rfl, HC, HB⟩ := hrel
    by_cases hlt : k < n
    · have hlt' : (k : Int) < n := by omega
      have k0 : (0 : Int) ≤ k := by omega
      obtain ⟨bb, oo, rfl, c1, c2, c3⟩ := (HF.out.below HB.out).cell k (by rw [HL.out]; exact hlt)
      have hF := HF.out.wf k
      have HX := Hd.mk (chkFn_next l k HC.out)
      have HY : Hd (badF (l.getD k fw0) ≠ 0 → V = (badF (l.getD k fw0), k)) := ⟨fun hb => by
        have h2 := chkFn_bad l k HC.out hb
        rw [HV.out, chkFn_stays l (k + 1) (by rw [h2]; exact hb) n (by omega), h2]⟩
      generalize l.getD k fw0 = f at *
      obtain ⟨fd, fx, fc⟩ := f
      dsimp only at c1 c2 c3 hF
      have HNu := Hd.mk (rNumber_any fx hF)
      have HCu := Hd.mk (rCur14_any fc)
      clear hlt hF
      by_cases h2 : fd < 0
      · have e1 := decide_eq_true h2
        have hv := HY.out (by unfold badF; rw [if_pos (Or.inl h2)]; decide)
        rw [show badF ⟨fd, fx, fc⟩ = 51 by unfold badF; rw [if_pos (Or.inl h2)]] at hv
        subst hv
        clear h2
        go_wp2_with fail
        go_ret2
        exact ⟨rfl, HB.out⟩
      have e1 := decide_eq_false h2
      by_cases h3 : 109572 < fd
      · have e2 : decide (fd > 109572) = true := decide_eq_true h3
        have hv := HY.out (by unfold badF; rw [if_pos (Or.inr h3)]; decide)
        rw [show badF ⟨fd, fx, fc⟩ = 51 by unfold badF; rw [if_pos (Or.inr h3)]] at hv
        subst hv
        clear h2 h3
        go_wp2_with fail
        go_ret2
        exact ⟨rfl, HB.out⟩
      have e2 : decide (fd > 109572) = false := decide_eq_false h3
      have hor : ¬ (fd < 0 ∨ 109572 < fd) := by omega
      cases hfx : fin fx
      · have hbd : badF ⟨fd, fx, fc⟩ = 91 := by unfold badF; rw [if_neg hor, if_pos hfx]
        have hv := HY.out (by rw [hbd]; decide)
        rw [hbd] at hv
        subst hv
        rw [hfx] at HNu
        clear h2 h3 hbd hor hfx
        go_wp2_with fail
        refine (HNu.out _).mono ?_; rintro e w' ⟨rfl, rfl⟩
        go_wp2_with fail
        go_ret2
        exact ⟨rfl, HB.out⟩
      cases hfc : okCy fc
      · have hbd : badF ⟨fd, fx, fc⟩ = 140 := by unfold badF; rw [if_neg hor, if_neg (by simp [hfx]), if_pos hfc]
        have hv := HY.out (by rw [hbd]; decide)
        rw [hbd] at hv
        subst hv
        rw [hfx] at HNu
        rw [hfc] at HCu
        clear h2 h3 hbd hor hfx hfc
        go_wp2_with fail
        refine (HNu.out _).mono ?_; rintro e w' ⟨rfl, rfl⟩
        go_wp2_with fail
        refine (HCu.out _).mono ?_; rintro e w' ⟨rfl, rfl⟩
        go_wp2_with fail
        go_ret2
        exact ⟨rfl, HB.out⟩
      · have hbd : badF ⟨fd, fx, fc⟩ = 0 := by unfold badF; rw [if_neg hor, if_neg (by simp [hfx]), if_neg (by simp [hfc])]
        have HC2 := Hd.mk (HX.out hbd)
        rw [hfx] at HNu
        rw [hfc] at HCu
        clear h2 h3 hbd hor hfx hfc HY
        go_wp2_with fail
        refine (HNu.out _).mono ?_; rintro e w' ⟨rfl, rfl⟩
        go_wp2_with fail
        refine (HCu.out _).mono ?_; rintro e w' ⟨rfl, rfl⟩
        go_wp2_with fail
        exact ⟨⟨k + 1, by omega, by go_num, HC2, HB⟩, by simp [intOf]; omega⟩
    · have hge : ¬ (k : Int) < n := by omega
      have hv := HV.out
      rw [show n = k by omega, HC.out] at hv
      subst hv
      clear hlt
      go_wp2_with fail
      go_ret2
      exact ⟨rfl, HB.out⟩

set_option maxHeartbeats 800000 in
theorem rAsked_any (au : Option Addr) (l : List Fw) (c : Nat) (tc : Int) (w : World) (hl : FlwsU w au l) :
    Calls Tryz.prog 42 #[.slice au l.length c, .int .i64 tc] w fun e w' => e = .returned (.int .i64 (bgF l tc)) ∧ Below w.heap.size w w' := by
  have HC := Hd.mk (rflowCheck_any au l c w hl)
  have HK := Hd.mk (rCur14_any tc)
  have HV : Hd (bgF l tc = if (chkF l).1 ≠ 0 then (chkF l).1 else if okCy tc then 0 else 140) := ⟨by unfold bgF chkC; simp⟩
  generalize bgF l tc = V at *
  generalize l.length = n at *
  generalize chkF l = E at *
  obtain ⟨e1, e2⟩ := E
  unfold ChkRet at HC
  dsimp only at HC HV
  clear hl
  by_cases h : e1 = 0
  · have hv := HV.out
    rw [if_neg (by omega)] at hv
    subst h
    cases ho : okCy tc
    · rw [ho] at HK
      rw [ho, if_neg (by decide)] at hv
      subst hv
      clear ho
      go_enter Tryz.func42, Tryz.ntmps42
      go_wp2_with fail
      refine HC.out.mono ?_; rintro e w1 ⟨rfl, hb⟩
      have HB := Hd.mk hb
      clear hb
      go_wp2_with fail
      refine (HK.out _).mono ?_; rintro e w' ⟨rfl, rfl⟩
      go_wp2_with fail
      go_ret
      exact ⟨rfl, HB.out⟩
    · rw [ho] at HK
      rw [ho, if_pos rfl] at hv
      subst hv
      clear ho
      go_enter Tryz.func42, Tryz.ntmps42
      go_wp2_with fail
      refine HC.out.mono ?_; rintro e w1 ⟨rfl, hb⟩
      have HB := Hd.mk hb
      clear hb
      go_wp2_with fail
      refine (HK.out _).mono ?_; rintro e w' ⟨rfl, rfl⟩
      go_wp2_with fail
      go_ret
      exact ⟨rfl, HB.out⟩
  · have hv := HV.out
    rw [if_pos h] at hv
    subst hv
    have d1 : (V != 0) = true := by rw [bne_iff_ne]; exact h
    clear h
    go_enter Tryz.func42, Tryz.ntmps42
    go_wp2_with fail
    refine HC.out.mono ?_; rintro e w1 ⟨rfl, hb⟩
    have HB := Hd.mk hb
    clear hb
    go_wp2_with fail
    go_ret
    exact ⟨rfl, HB.out⟩

end Go.Proofs.YteikihidblcljaaGreat

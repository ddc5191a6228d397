/- Plain: a table's values times -1 and times 2. No program. -/
import Derived.Test.YteikihidblcljaaWiC
namespace Go.Proofs.Yteikihidblcljaa
set_option linter.unusedSimpArgs false
set_option linter.unusedVariables false

/-- -1. -/
def negO : Nat := 13830554455654793216
theorem neg_ok : F64 negO ∧ fin negO = true ∧ SV negO = -(U1 : Int) := ⟨⟨by decide⟩, by decide +kernel, by decide +kernel⟩
theorem two_sv : SV two64f = 2 * (U1 : Int) := by decide +kernel
theorem op_neg1 {y : Nat} (hy : F64 y) (fy : fin y = true) (hm : F64 (fmul negO y)) : Op y (fmul negO y) := by
  obtain ⟨n1, n2, n3⟩ := neg_ok
  have h := rk_fmul negO y n1 hy n2 fy
  refine op_rz (z := SV y) hy hm (nn_fin _ fy) h.2 (rz_SV y fy).symm ?_
  rw [h.1, n3, show -(U1 : Int) * SV y = -SV y * (U1 : Int) by rw [Int.neg_mul, Int.neg_mul, Int.mul_comm], rz_U1]
theorem tw_mul2 {y : Nat} (r : Rg y 123 1923) (hm : F64 (fmul two64f y)) : Tw y (fmul two64f y) := by
  have fy := r.fin (by decide)
  have h := rk_fmul two64f y two_ok.1 r.fx two_ok.2.1 fy
  refine (tw_rz (z := SV y) r.fx hm (rz_SV y fy).symm ?_ 123 1924 (by decide) (by decide) ?_).1
  · rw [h.1, two_sv, show 2 * (U1 : Int) * SV y = 2 * SV y * (U1 : Int) by rw [Int.mul_right_comm], rz_U1]
  · rcases r.sv (by decide) (by decide) with h0 | ⟨h1, h2⟩
    · exact Or.inl h0
    · exact Or.inr ⟨h1, Nat.lt_of_le_of_lt h2 (Q51_lt (by decide))⟩
theorem getD_mulY {Y : List Nat} {m i : Nat} (hi : i < Y.length) : (Y.map (fmul m)).getD i 0 = fmul m (Y.getD i 0) := by
  simp [List.getD_eq_getElem?_getD, List.getElem?_eq_getElem hi]
/-- Turned in sign. -/
theorem turn_tab {kind : Int} {X : List Int} {Y : List Nat} {x : Int} (hkd : kind = 2 ∨ kind = 3) (c : chkT kind X Y = 0) (hw : ∀ i, F64 (Y.getD i 0)) (hm : ∀ i, F64 ((Y.map (fmul negO)).getD i 0)) :
    (atT kind X (Y.map (fmul negO)) x).2 = (atT kind X Y x).2 ∧ ((atT kind X Y x).2 = 0 → Op (atT kind X Y x).1 (atT kind X (Y.map (fmul negO)) x).1) := by
  obtain ⟨ok, k1, k4, _⟩ := chk_ok c hw
  have ho : ∀ i, i < X.length → Op (Y.getD i 0) ((Y.map (fmul negO)).getD i 0) := fun i hi => by
    have e := getD_mulY (m := negO) (show i < Y.length by rw [ok.ly]; exact hi)
    have h2 := hm i
    rw [e] at h2 ⊢
    exact op_neg1 (hw i) (ok.fn i hi) h2
  have c2 : chkT kind X (Y.map (fmul negO)) = 0 := chk_same hkd (by simp) (fun i hi => by rw [(ho i hi).fin]; exact ok.fn i hi) hw c
  obtain ⟨ok', _⟩ := chk_ok c2 hm
  exact at_op ⟨ok, ok', ho⟩ hkd c c2
/-- Doubled. -/
theorem twice_tab {kind : Int} {X : List Int} {Y : List Nat} {x : Int} (hkd : kind = 2 ∨ kind = 3) (c : chkT kind X Y = 0) (hw : ∀ i, F64 (Y.getD i 0)) (hm : ∀ i, F64 ((Y.map (fmul two64f)).getD i 0)) (hr : ∀ i, i < X.length → Rg (Y.getD i 0) 123 1923) :
    (atT kind X (Y.map (fmul two64f)) x).2 = (atT kind X Y x).2 ∧ ((atT kind X Y x).2 = 0 → Tw (atT kind X Y x).1 (atT kind X (Y.map (fmul two64f)) x).1) := by
  obtain ⟨ok, k1, k4, _⟩ := chk_ok c hw
  have ho : ∀ i, i < X.length → Tw (Y.getD i 0) ((Y.map (fmul two64f)).getD i 0) := fun i hi => by
    have e := getD_mulY (m := two64f) (show i < Y.length by rw [ok.ly]; exact hi)
    have h2 := hm i
    rw [e] at h2 ⊢
    exact tw_mul2 (hr i hi) h2
  have c2 : chkT kind X (Y.map (fmul two64f)) = 0 := chk_same hkd (by simp) (fun i hi => (ho i hi).finy) hw c
  exact at_tw ⟨ok, ho, hr⟩ hkd c c2
/-- A number's size. -/
theorem rg_size {y m : Nat} (hy : F64 y) (hm : rk m = mg y) (h : rk m = 0 ∨ (¬ rk m < 553942754166571008 ∧ ¬ 8660422083433463808 < rk m)) : Rg y 123 1923 := by
  refine ⟨hy, ?_⟩
  rw [hm] at h
  omega

end Go.Proofs.Yteikihidblcljaa

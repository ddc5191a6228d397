/- Plain: a curve with a later base: what is left of it, and that it falls still. No program. -/
import Derived.Test.YteikihidblcljaaQaC
import Derived.Test.YteikihidblcljaaM12
import Derived.Test.YteikihidblcljaaUpC
import Derived.Test.YteikihidblcljaaM7
namespace Go.Proofs.Yteikihidblcljaa
open Go.RowKit
set_option linter.unusedSimpArgs false
set_option linter.unusedVariables false

/-- How many days lie at n or ahead of it. -/
def kR (D : List Int) (n : Int) : Nat := D.countP (fun y => !decide (n + 1 ≤ y))
theorem COk.lt {b kind : Int} {D : List Int} {F : List Nat} (h : COk b kind D F) : ∀ {j i : Nat}, i ≤ j → j < D.length → D.getD i 0 ≤ D.getD j 0 ∧ b < D.getD i 0 := by
  have base : ∀ i, i < D.length → b < D.getD i 0 := by
    intro i
    induction i with
    | zero => intro hi; have := h.up 0 hi; unfold prvU at this; rwa [if_pos rfl] at this
    | succ i ih =>
      intro hi
      have := h.up (i + 1) hi
      unfold prvU at this
      rw [if_neg (by omega), Nat.add_sub_cancel] at this
      have := ih (by omega)
      omega
  intro j
  induction j with
  | zero => intro i h1 h2; obtain rfl : i = 0 := by omega
            exact ⟨Int.le_refl _, base 0 h2⟩
  | succ j ih =>
    intro i h1 h2
    by_cases e : i = j + 1
    · subst e; exact ⟨Int.le_refl _, base _ h2⟩
    · have a := ih (i := i) (by omega) (by omega)
      have u := h.up (j + 1) h2
      unfold prvU at u
      rw [if_neg (by omega), Nat.add_sub_cancel] at u
      exact ⟨by omega, a.2⟩
theorem kR_split {b kind : Int} {D : List Int} {F : List Nat} (h : COk b kind D F) (n : Int) :
    kR D n ≤ D.length ∧ (∀ i, i < kR D n → D.getD i 0 ≤ n) ∧ (∀ i, kR D n ≤ i → i < D.length → n < D.getD i 0) := by
  have key : ∀ m, m ≤ D.length → ∃ k, k ≤ m ∧ (∀ i, i < k → D.getD i 0 ≤ n) ∧ (∀ i, k ≤ i → i < m → n < D.getD i 0) := by
    intro m
    induction m with
    | zero => intro _; exact ⟨0, Nat.le_refl _, fun i hi => by omega, fun i _ hi => by omega⟩
    | succ m ih =>
      intro hm
      obtain ⟨k, k1, k2, k3⟩ := ih (by omega)
      by_cases e : D.getD m 0 ≤ n
      · refine ⟨m + 1, Nat.le_refl _, fun i hi => ?_, fun i h1 h2 => by omega⟩
        have := (h.lt (show i ≤ m by omega) (by omega)).1
        omega
      · refine ⟨k, by omega, k2, fun i h1 h2 => ?_⟩
        by_cases e2 : i = m
        · subst e2; omega
        · exact k3 i h1 (by omega)
  obtain ⟨k, k1, k2, k3⟩ := key D.length (Nat.le_refl _)
  have e : kR D n = k := count_split D n k k1 k2 k3
  rw [e]
  exact ⟨k1, k2, k3⟩
theorem kR_lt {b kind : Int} {D : List Int} {F : List Nat} (h : COk b kind D F) {n : Int} (hn : n < lastT D) : kR D n < D.length := by
  obtain ⟨k1, k2, k3⟩ := kR_split h n
  have := h.n1
  refine Decidable.byContradiction fun hc => ?_
  have e := k2 (D.length - 1) (by omega)
  unfold lastT at hn
  omega
/-- A quotient that is a number above 0. -/
def okQ (v : Nat) : Bool := fin v && !(mg v == 0)
/-- The factor at the new base. -/
def rollX (b kind : Int) (D : List Int) (F : List Nat) (n : Int) : Nat := (atT kind (b :: D) (one64 :: F) n).1
/-- What is left of a curve. -/
def rollD (D : List Int) (n : Int) : List Int := D.drop (kR D n)
def rollF (D : List Int) (F : List Nat) (n : Int) (x : Nat) : List Nat := (F.drop (kR D n)).map fun f => fdiv f x
open Classical in
/-- What is wrong. -/
noncomputable def rollE (b kind : Int) (D : List Int) (F : List Nat) (n : Int) : Int :=
  if chkU b kind D F ≠ 0 then chkU b kind D F else if n < b ∨ lastT D ≤ n then 51 else if (∀ i, i < D.length → kR D n ≤ i → okQ (fdiv (F.getD i 0) (rollX b kind D F n)) = true) then 0 else 91
theorem tab_last {b : Int} {D : List Int} (h : 1 ≤ D.length) : lastT (b :: D) = lastT D := by
  unfold lastT
  have : (b :: D).length - 1 = D.length - 1 + 1 := by simp; omega
  rw [this]; simp
theorem ltF_iff {x : Nat} (hn : nn x = false) : ltF 0 x = true ↔ 0 < rk x := by
  unfold ltF
  have z : nn 0 = false ∧ rk 0 = 0 := by decide +kernel
  rw [hn, z.1, z.2]; simp
theorem F64_tab {F : List Nat} (hw : ∀ i, F64 (F.getD i 0)) (i : Nat) : F64 ((one64 :: F).getD i 0) := by
  cases i with
  | zero => simpa using one_ok.1
  | succ i => simpa using hw i
/-- The factor at a place in range: a number above 0. -/
theorem rollX_ok {b kind : Int} {D : List Int} {F : List Nat} (h : COk b kind D F) (hw : ∀ i, F64 (F.getD i 0)) {n : Int} (h1 : b ≤ n) (h2 : n ≤ lastT D) :
    atT kind (b :: D) (one64 :: F) n = (rollX b kind D F n, 0) ∧ F64 (rollX b kind D F n) ∧ fin (rollX b kind D F n) = true ∧ 0 < rk (rollX b kind D F n) ∧ rollX b kind D F n = vlT kind (b :: D) (one64 :: F) n := by
  have ct := h.tab
  obtain ⟨ok, k1, k4, hl⟩ := chk_ok ct (F64_tab hw)
  have e := at_vl ct (x := n) (by simpa using h1) (by rw [tab_last h.n1]; exact h2)
  have ex : rollX b kind D F n = vlT kind (b :: D) (one64 :: F) n := by unfold rollX; rw [e]
  have pos : ∀ i, i < (b :: D).length → fin ((one64 :: F).getD i 0) = true ∧ 0 < rk ((one64 :: F).getD i 0) := fun i hi => by
    cases i with
    | zero => exact ⟨by simpa using one_ok.2.1, by show 0 < rk one64; decide +kernel⟩
    | succ i =>
      have hi' : i < D.length := by simpa using hi
      refine ⟨by simpa using h.fn i hi', ?_⟩
      have := (ltF_iff (nn_fin _ (h.fn i hi'))).1 (h.ps i hi')
      simpa using this
  obtain ⟨v1, v2, v3, v4⟩ := vl_bd ok k1 k4 hl (x := n) (by simpa using h1) (by rw [tab_last h.n1]; exact h2)
  rw [ex]
  refine ⟨e, v1, ?_, ?_, rfl⟩
  · rcases v4 with ⟨_, e2⟩ | ⟨g, l1, l2⟩
    · rw [e2]; exact (pos _ v3).1
    · exact fin_rk2 v2 (pos _ v3).1 (pos _ g).1 l1 l2
  · rcases v4 with ⟨_, e2⟩ | ⟨g, l1, l2⟩
    · rw [e2]; exact (pos _ v3).2
    · have := (pos _ v3).2
      have := (pos _ g).2
      omega
theorem ng_of_pos {x : Nat} (h : 0 < rk x) : ng x = false ∧ mg x ≠ 0 := by
  unfold rk at h
  cases hg : ng x
  · rw [hg] at h; simp at h; exact ⟨rfl, by omega⟩
  · rw [hg] at h; simp at h; omega
theorem okQ_pos {u v : Nat} (hu : F64 u) (hv : F64 v) (fu : fin u = true) (fv : fin v = true) (pu : 0 < rk u) (pv : 0 < rk v) (h : okQ (fdiv u v) = true) : fin (fdiv u v) = true ∧ ltF 0 (fdiv u v) = true := by
  unfold okQ at h
  simp only [Bool.and_eq_true, Bool.not_eq_true', beq_eq_false_iff_ne] at h
  obtain ⟨h1, h2⟩ := h
  refine ⟨h1, (ltF_iff (nn_fin _ h1)).2 ?_⟩
  have hg := ng_fdiv hu hv fu (ng_of_pos pu).2 (nn_fin _ fv)
  rw [(ng_of_pos pu).1, (ng_of_pos pv).1] at hg
  unfold rk
  rw [hg]
  simp
  omega
theorem getD_rollF {D : List Int} {F : List Nat} {n : Int} {x i : Nat} (hi : kR D n + i < F.length) : (rollF D F n x).getD i 0 = fdiv (F.getD (kR D n + i) 0) x := by
  unfold rollF
  rw [List.getD_eq_getElem?_getD, List.getElem?_map, List.getElem?_drop, List.getElem?_eq_getElem hi, List.getD_eq_getElem?_getD, List.getElem?_eq_getElem hi]; rfl
theorem getD_rollD {D : List Int} {n : Int} {i : Nat} (hi : kR D n + i < D.length) : (rollD D n).getD i 0 = D.getD (kR D n + i) 0 := by
  unfold rollD
  rw [List.getD_eq_getElem?_getD, List.getElem?_drop, List.getElem?_eq_getElem hi, List.getD_eq_getElem?_getD, List.getElem?_eq_getElem hi]
/-- What is left of a good curve is a good curve. -/
theorem roll_chk {b kind : Int} {D : List Int} {F : List Nat} (h : COk b kind D F) (hw : ∀ i, F64 (F.getD i 0)) {n : Int} (h1 : b ≤ n) (h2 : n < lastT D) (hq : ∀ i, i < D.length → kR D n ≤ i → okQ (fdiv (F.getD i 0) (rollX b kind D F n)) = true) :
    chkU n kind (rollD D n) (rollF D F n (rollX b kind D F n)) = 0 := by
  have kl := kR_lt h h2
  obtain ⟨s1, s2, s3⟩ := kR_split h n
  obtain ⟨x0, x1, x2, x3, _⟩ := rollX_ok h hw h1 (Int.le_of_lt h2)
  have ln : (rollD D n).length = D.length - kR D n := by unfold rollD; simp
  have lf : (rollF D F n (rollX b kind D F n)).length = D.length - kR D n := by unfold rollF; simp [h.ln]
  have n2 := h.n2
  have hl := h.hi (D.length - 1) (by omega)
  refine chkU_good (isDy_iff.2 ⟨by have := h.b0; omega, by unfold lastT at h2; omega⟩) (by unfold knB; have := h.k1; have := h.k4; simp; omega) (by unfold lnU; rw [ln, lf]; simp; omega) fun i hi => ?_
  rw [ln] at hi
  have hd : kR D n + i < D.length := by omega
  obtain ⟨q1, q2⟩ := okQ_pos (hw (kR D n + i)) x1 (h.fn _ hd) x2 ((ltF_iff (nn_fin _ (h.fn _ hd))).1 (h.ps _ hd)) x3 (hq _ hd (by omega))
  unfold ndAU ndU
  rw [getD_rollD hd, getD_rollF (by rw [h.ln]; exact hd), q1, q2]
  have p : prvU n (rollD D n) i < D.getD (kR D n + i) 0 := by
    unfold prvU
    by_cases e : i = 0
    · rw [if_pos e, e]; exact s3 _ (by omega) (by omega)
    · rw [if_neg e, getD_rollD (by omega)]
      have := h.up (kR D n + i) hd
      unfold prvU at this
      rw [if_neg (by omega)] at this
      rw [show kR D n + (i - 1) = kR D n + i - 1 by omega]
      exact this
  rw [decide_eq_true p, decide_eq_true (h.hi _ hd)]; rfl
/-- Does a curve fall? -/
def flB (F : List Nat) : Bool := (List.range F.length).all fun i => !ltF (if i = 0 then one64 else F.getD (i - 1) 0) (F.getD i 0)
theorem flB_iff {F : List Nat} (hf : ∀ i, i < F.length → fin (F.getD i 0) = true) : flB F = true ↔ ∀ i, i < F.length → rk (F.getD i 0) ≤ rk (if i = 0 then one64 else F.getD (i - 1) 0) := by
  unfold flB
  rw [List.all_eq_true]
  have key : ∀ i, i < F.length → ((!ltF (if i = 0 then one64 else F.getD (i - 1) 0) (F.getD i 0)) = true ↔ rk (F.getD i 0) ≤ rk (if i = 0 then one64 else F.getD (i - 1) 0)) := fun i hi => by
    have n1 := nn_fin _ (hf i hi)
    have n2 : nn (if i = 0 then one64 else F.getD (i - 1) 0) = false := by
      split
      · exact nn_fin _ one_ok.2.1
      · exact nn_fin _ (hf _ (by omega))
    unfold ltF
    rw [n1, n2]; simp
  exact ⟨fun h i hi => (key i hi).1 (h i (List.mem_range.2 hi)), fun h i hi => (key i (List.mem_range.1 hi)).2 (h i (List.mem_range.1 hi))⟩
theorem q2_self {A : Nat} (h : 0 < A) : q2 A A = 2 * 2 ^ qK := by
  unfold q2
  rw [Nat.mul_div_cancel_left _ h, Nat.mul_mod_right, show (nz 0).toNat = 0 by decide, Nat.add_zero]
theorem q2_pow (A d r : Nat) (h : qK = d + r) : q2 A (2 ^ d) = A * 2 ^ (r + 1) := by
  have hp : 0 < 2 ^ d := Nat.pow_pos (by decide)
  have e : A * 2 ^ qK = 2 ^ d * (A * 2 ^ r) := by
    rw [h, Nat.pow_add, ← Nat.mul_assoc, Nat.mul_comm A, Nat.mul_assoc]
  unfold q2
  rw [e, Nat.mul_div_cancel_left _ hp, Nat.mul_mod_right, Nat.pow_succ, show (nz 0).toNat = 0 by decide, Nat.add_zero, Nat.mul_comm 2, Nat.mul_assoc]
theorem zq_nat (A B : Nat) : zq (A : Int) B = (q2 A B : Nat) := by
  unfold zq
  rw [if_neg (by omega), Int.natAbs_natCast]
def qR : Nat := 3926
theorem one_VV : SV one64 = (VV (mg one64) : Int) ∧ VV (mg one64) = U1 ∧ 0 < rk one64 := by decide +kernel
/-- Divided by 1. -/
theorem rk_div_one {u : Nat} (hu : F64 u) (fu : fin u = true) (pu : 0 < rk u) : rk (fdiv u one64) = rk u := by
  have h := (rk_fdiv u one64 hu one_ok.1 fu one_ok.2.1 one_VV.2.2).1
  obtain ⟨_, sv⟩ := VV_pos_of u pu
  rw [h, one_VV.2.1, sv, zq_nat]
  have hU : U1 = 2 ^ dp := rfl
  rw [hU, q2_pow (VV (mg u)) dp qR (by decide)]
  have e : -(qK : Int) - 1 = -1074 - ((qR + 1 : Nat) : Int) := by decide
  have r := rz_scale (qR + 1) (-1074) (VV (mg u) : Int) (by decide)
  rw [e]
  rw [Int.natCast_mul]
  rw [r, ← sv, rz_SV u fu]
theorem rk_div_self {x : Nat} (hx : F64 x) (fx : fin x = true) (h : 0 < rk x) : rk (fdiv x x) = rk one64 := by
  have h1 := (rk_fdiv x x hx hx fx fx h).1
  have h2 := (rk_fdiv one64 one64 one_ok.1 one_ok.1 one_ok.2.1 one_ok.2.1 one_VV.2.2).1
  have h3 := rk_div_one one_ok.1 one_ok.2.1 one_VV.2.2
  obtain ⟨p1, s1⟩ := VV_pos_of x h
  obtain ⟨p2, s2⟩ := VV_pos_of one64 one_VV.2.2
  rw [h1, s1, zq_nat, q2_self p1]
  rw [h2, s2, zq_nat, q2_self p2] at h3
  exact h3
/-- Divided by 1, to the bit. -/
theorem fdiv_one {u : Nat} (hu : F64 u) (fu : fin u = true) (pu : 0 < rk u) : fdiv u one64 = u := by
  have h1 := rk_div_one hu fu pu
  have n1 := (rk_fdiv u one64 hu one_ok.1 fu one_ok.2.1 one_VV.2.2).2
  have g1 := ng_fdiv hu one_ok.1 fu (ng_of_pos pu).2 (nn_fin _ one_ok.2.1)
  rw [(ng_of_pos pu).1, one_ok.2.2.2.1] at g1
  have hq := F64_fdiv u one64
  generalize fdiv u one64 = v at *
  have gu := (ng_of_pos pu).1
  have gv : ng v = false := g1
  rw [rk_of_pos gu, rk_of_pos gv] at h1
  have a : u < 9223372036854775808 := by simpa [ng] using gu
  have b : v < 9223372036854775808 := by simpa [ng] using gv
  unfold mg at h1
  omega
/-- A curve that falls falls still, if its kind is not the last. -/
theorem roll_falls {b kind : Int} {D : List Int} {F : List Nat} (h : COk b kind D F) (hw : ∀ i, F64 (F.getD i 0)) {n : Int} (h1 : b ≤ n) (h2 : n < lastT D) (hq : ∀ i, i < D.length → kR D n ≤ i → okQ (fdiv (F.getD i 0) (rollX b kind D F n)) = true) (hk : kind ≠ 4) (hf : flB F = true) :
    flB (rollF D F n (rollX b kind D F n)) = true := by
  have kl := kR_lt h h2
  obtain ⟨s1, s2, s3⟩ := kR_split h n
  obtain ⟨x0, x1, x2, x3, x4⟩ := rollX_ok h hw h1 (Int.le_of_lt h2)
  have lf : (rollF D F n (rollX b kind D F n)).length = D.length - kR D n := by unfold rollF; simp [h.ln]
  have ps : ∀ i, i < D.length → 0 < rk (F.getD i 0) := fun i hi => (ltF_iff (nn_fin _ (h.fn _ hi))).1 (h.ps _ hi)
  have fq : ∀ i, kR D n + i < D.length → fin (fdiv (F.getD (kR D n + i) 0) (rollX b kind D F n)) = true := fun i hi => (okQ_pos (hw _) x1 (h.fn _ hi) x2 (ps _ hi) x3 (hq _ hi (by omega))).1
  rw [flB_iff (fun i hi => h.fn i (by rw [h.ln] at hi; exact hi))] at hf
  rw [flB_iff (fun i hi => by rw [lf] at hi; rw [getD_rollF (by rw [h.ln]; omega)]; exact fq i (by omega))]
  intro i hi
  rw [lf] at hi
  rw [getD_rollF (by rw [h.ln]; omega)]
  by_cases e : i = 0
  · subst e
    rw [if_pos rfl, ← rk_div_self x1 x2 x3, Nat.add_zero]
    refine fdiv_mono _ _ _ (hw _) x1 x1 (h.fn _ kl) x2 x2 ?_ x3
    have ct := h.tab
    obtain ⟨ok, k1, k4, hl⟩ := chk_ok ct (F64_tab hw)
    have hd := s3 _ (Nat.le_refl _) kl
    have hlast := (h.lt (show kR D n ≤ D.length - 1 by omega) (by omega)).1
    have m := (vl_mono ok k1 (by omega) (x := n) (y := D.getD (kR D n) 0) (by simpa using h1) (Int.le_of_lt hd) (by rw [tab_last h.n1]; exact hlast)).2 (fun j hj => by
      have hj' : j < D.length := by simpa using hj
      have := hf j (by rw [h.ln]; exact hj')
      cases j with
      | zero => simpa using this
      | succ j => simpa using this)
    rw [x4]
    have at1 := at_nodeT ct ok (i := kR D n + 1) (by simpa using kl)
    have at2 := at_vl ct (x := D.getD (kR D n) 0) (by have := (h.lt (Nat.le_refl _) kl).2; simpa using Int.le_of_lt this) (by rw [tab_last h.n1]; exact hlast)
    have e1 : (b :: D).getD (kR D n + 1) 0 = D.getD (kR D n) 0 := by simp
    have e2 : (one64 :: F).getD (kR D n + 1) 0 = F.getD (kR D n) 0 := by simp
    rw [e1, e2, at2] at at1
    have e3 : vlT kind (b :: D) (one64 :: F) (D.getD (kR D n) 0) = F.getD (kR D n) 0 := congrArg Prod.fst at1.1
    rw [e3] at m
    exact m
  · rw [if_neg e, getD_rollF (by rw [h.ln]; omega)]
    have := hf (kR D n + i) (by rw [h.ln]; omega)
    rw [if_neg (by omega), show kR D n + i - 1 = kR D n + (i - 1) by omega] at this
    exact fdiv_mono _ _ _ (hw _) (hw _) x1 (h.fn _ (by omega)) (h.fn _ (by omega)) x2 this x3
/-- Rolled to its base. -/
theorem roll_base {b kind : Int} {D : List Int} {F : List Nat} (h : COk b kind D F) (hw : ∀ i, F64 (F.getD i 0)) : b < lastT D ∧ rollX b kind D F b = one64 ∧ kR D b = 0 ∧ rollD D b = D ∧ (∀ i, i < F.length → (rollF D F b one64).getD i 0 = F.getD i 0) ∧ (rollF D F b one64).length = F.length ∧ (∀ i, i < D.length → okQ (fdiv (F.getD i 0) one64) = true) := by
  have n1 := h.n1
  have hl : b < lastT D := (h.lt (Nat.le_refl _) (show D.length - 1 < D.length by omega)).2
  obtain ⟨s1, s2, s3⟩ := kR_split h b
  have k0 : kR D b = 0 := by
    refine Decidable.byContradiction fun hc => ?_
    have h1 := s2 0 (by omega)
    have h2 := (h.lt (Nat.le_refl 0) (by omega)).2
    omega
  have ct := h.tab
  obtain ⟨ok, k1, k4, hlp⟩ := chk_ok ct (F64_tab hw)
  have a := (at_nodeT ct ok (i := 0) (by simp)).1
  have e1 : (b :: D).getD 0 0 = b := by simp
  have e2 : (one64 :: F).getD 0 0 = one64 := by simp
  rw [e1, e2] at a
  have fd : ∀ i, i < F.length → fdiv (F.getD i 0) one64 = F.getD i 0 := fun i hi => by
    have hi' : i < D.length := by rw [h.ln] at hi; exact hi
    exact fdiv_one (hw i) (h.fn i hi') ((ltF_iff (nn_fin _ (h.fn _ hi'))).1 (h.ps _ hi'))
  refine ⟨hl, by unfold rollX; rw [a], k0, by unfold rollD; rw [k0]; rfl, fun i hi => ?_, by unfold rollF; rw [k0]; simp, fun i hi => ?_⟩
  · rw [getD_rollF (by rw [k0]; omega), k0, Nat.zero_add, fd i hi]
  · rw [fd i (by rw [h.ln]; exact hi)]
    unfold okQ
    have := (ng_of_pos ((ltF_iff (nn_fin _ (h.fn _ hi))).1 (h.ps _ hi))).2
    rw [Bool.and_eq_true]
    exact ⟨h.fn i hi, by rw [beq_eq_false_iff_ne.2 this]; rfl⟩

end Go.Proofs.Yteikihidblcljaa

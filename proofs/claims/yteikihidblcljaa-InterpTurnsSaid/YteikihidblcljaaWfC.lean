/- Plain: a table's values doubled: what a place holds is doubled. No program. -/
import Derived.Test.YteikihidblcljaaWeC
namespace Go.Proofs.Yteikihidblcljaa
set_option linter.unusedSimpArgs false
set_option linter.unusedVariables false

/-- A table, and the one with doubled values. -/
structure TwT (X : List Int) (Y Y' : List Nat) (n : Nat) : Prop where
  ok : TOk X Y n
  tw : ∀ i, i < n → Tw (Y.getD i 0) (Y'.getD i 0)
  rg : ∀ i, i < n → Rg (Y.getD i 0) 123 1923
theorem U1_pow : U1 = Q51 1023 := by
  have h : dp = 1023 + 51 := dp_eq
  rw [Q51_def, ← h]
  rfl
theorem FI_rg {m : Int} (h0 : 1 ≤ m) (h1 : m ≤ 109572) : Rg (FI m) 1023 1040 ∧ mg (FI m) ≠ 0 := by
  have h := Whl.of_int m (by omega)
  have h2 : SV (FI m) = m * (U1 : Int) := h.sv
  refine ⟨rg_of_sv (x := FI m) h.wf 1023 1040 (by decide) (by decide) (Or.inr ?_), (FI_ok (by omega) (by omega)).2.2⟩
  rw [h2, Int.natAbs_mul, Int.natAbs_natCast, U1_pow]
  refine ⟨Nat.le_mul_of_pos_left _ (by omega), ?_⟩
  have : m.natAbs * Q51 1023 ≤ 2 ^ 17 * Q51 1023 := Nat.mul_le_mul_right _ (by rw [show (2 : Nat) ^ 17 = 131072 by decide]; omega)
  rw [Nat.mul_comm (2 ^ 17), Q51_pow] at this
  exact this
theorem TwT.fi {X : List Int} {Y Y' : List Nat} {n : Nat} (h : TwT X Y Y' n) {k : Nat} (hk : k + 1 < n) : Rg (FI (X.getD (k + 1) 0 - X.getD k 0)) 1023 1040 ∧ mg (FI (X.getD (k + 1) 0 - X.getD k 0)) ≠ 0 := by
  have := h.ok.step hk
  exact FI_rg (by omega) (by omega)
theorem Rg.up {x lo hi : Nat} (r : Rg x lo hi) (h1 : 1 ≤ lo) (hh : 1 ≤ hi) : (SV x).natAbs ≤ Q51 hi := by
  rcases r.sv h1 hh with h | h
  · rw [h]; exact Nat.zero_le _
  · exact h.2
theorem rs_tw {X : List Int} {Y Y' : List Nat} {n : Nat} (h : TwT X Y Y' n) {k : Nat} (hk : k + 1 < n) : Tw (rsT X Y k) (rsT X Y' k) ∧ Rg (rsT X Y k) 53 1926 := by
  have r1 := h.rg (k + 1) hk
  have r0 := h.rg k (by omega)
  have d1 := r1.dvd (by decide)
  have d0 := r0.dvd (by decide)
  have u1 := r1.up (by decide) (by decide)
  have u0 := r0.up (by decide) (by decide)
  have hz := dvd_ge (Int.dvd_sub d1 d0)
  have p1 : Q51 1923 + Q51 1923 = Q51 (1923 + 1) := Q51_two 1923
  have p2 : Q51 (1923 + 1) < Q51 1925 := Q51_lt (by decide)
  obtain ⟨t, r⟩ := tw_sub (h.tw (k + 1) hk) (h.tw k (by omega)) 71 1925 (by decide) (by decide) (hz.imp id fun e => ⟨Nat.le_trans (Q51_le_pow (by decide)) e, by
    generalize Q51 (1923 + 1) = A at *
    generalize Q51 1923 = B at *
    generalize Q51 1925 = C at *
    omega⟩)
  obtain ⟨f1, f2⟩ := h.fi hk
  exact tw_num t r f1 f2 (by decide) (by decide) (by decide) 53 1926 (by decide) (by decide) (by decide) (by decide)
theorem tw_zero : Tw 0 0 := ⟨⟨by decide⟩, ⟨by decide⟩, Or.inl ⟨mg_0, mg_0⟩, by rw [mg_0]; decide⟩
theorem one_rg : Rg one64 1023 1023 := ⟨one_ok.1, Or.inr (by decide +kernel)⟩
theorem two_rg : Rg two64f 1024 1024 := ⟨two_ok.1, Or.inr (by decide +kernel)⟩
theorem thr_rg : Rg thr64 1024 1025 := ⟨thr_ok.1, Or.inr (by decide +kernel)⟩
theorem sv_ng {x : Nat} : (ng x = true → SV x ≤ 0) ∧ (ng x = false → 0 ≤ SV x) := by
  unfold SV
  refine ⟨fun h => by rw [if_pos h]; omega, fun h => by rw [if_neg (by simp [h])]; omega⟩
theorem hm_tw {a a' b b' : Nat} (ta : Tw a a') (tb : Tw b b') (ra : Rg a 53 1926) (rb : Rg b 53 1926) : Tw (hmT a b) (hmT a' b') ∧ Rg (hmT a b) 50 1929 := by
  unfold hmT
  rw [(tw_zero.lt ta).1, (tw_zero.lt tb).1, (ta.lt tw_zero).1, (tb.lt tw_zero).1]
  by_cases hc : ((ltF 0 a && ltF 0 b) || (ltF a 0 && ltF b 0)) = true
  rotate_left
  · rw [if_neg hc, if_neg hc]
    exact ⟨tw_zero, ⟨by decide⟩, Or.inl mg_0⟩
  rw [if_pos hc, if_pos hc]
  have nz0 : ∀ x, ltF 0 x = true ∨ ltF x 0 = true → mg x ≠ 0 := fun x hx e => by
    have h1 : rk x = 0 := by unfold rk; rw [e]; split <;> rfl
    have h0 : rk 0 = 0 := by decide +kernel
    unfold ltF at hx
    rw [h1, h0] at hx
    simp at hx
  have hs : ng a = ng b ∧ mg a ≠ 0 ∧ mg b ≠ 0 := by
    simp only [Bool.or_eq_true, Bool.and_eq_true] at hc
    rcases hc with ⟨h1, h2⟩ | ⟨h1, h2⟩
    · exact ⟨by rw [ltF_ng h1, ltF_ng h2], nz0 a (Or.inl h1), nz0 b (Or.inl h2)⟩
    · exact ⟨by rw [ltF_ng' h1, ltF_ng' h2], nz0 a (Or.inr h1), nz0 b (Or.inr h2)⟩
  obtain ⟨o1, o2, o3, o4, _⟩ := one_ok
  obtain ⟨t1, t2, t3, _⟩ := two_ok
  obtain ⟨p1, p2, p3, p4⟩ := tw_den ta one_rg ra o3 hs.2.1 (by decide) (by decide) (by decide) 118 1993 (by decide) (by decide) (by decide) (by decide)
  obtain ⟨q1, q2, q3, q4⟩ := tw_den tb one_rg rb o3 hs.2.2 (by decide) (by decide) (by decide) 118 1993 (by decide) (by decide) (by decide) (by decide)
  have hsg : ng (fdiv one64 a') = ng (fdiv one64 b') := by rw [p4, q4, hs.1]
  have s1 := p2.sv (by decide) (by decide)
  have s2 := q2.sv (by decide) (by decide)
  have z1 : SV (fdiv one64 a') ≠ 0 := fun e => by
    have : VV (mg (fdiv one64 a')) = 0 := by rw [← SV_abs, e]; rfl
    exact p3 (VV_inj (this.trans VV_zero.symm))
  have z2 : SV (fdiv one64 b') ≠ 0 := fun e => by
    have : VV (mg (fdiv one64 b')) = 0 := by rw [← SV_abs, e]; rfl
    exact q3 (VV_inj (this.trans VV_zero.symm))
  have b1 := s1.resolve_left z1
  have b2 := s2.resolve_left z2
  have n1 := @sv_ng (fdiv one64 a')
  have n2 := @sv_ng (fdiv one64 b')
  rw [hsg] at n1
  have PQ1 : Q51 1993 + Q51 1993 = Q51 (1993 + 1) := Q51_two 1993
  have PQ2 : Q51 (1993 + 1) < Q51 1995 := Q51_lt (by decide)
  have hsum : Q51 118 ≤ (SV (fdiv one64 a') + SV (fdiv one64 b')).natAbs ∧ (SV (fdiv one64 a') + SV (fdiv one64 b')).natAbs < Q51 1995 := by
    generalize Q51 (1993 + 1) = A at *
    generalize Q51 1993 = B at *
    generalize Q51 1995 = C at *
    generalize Q51 118 = D at *
    cases hg : ng (fdiv one64 b')
    · have := n1.2 hg; have := n2.2 hg; omega
    · have := n1.1 hg; have := n2.1 hg; omega
  obtain ⟨ts, rs⟩ := tw_add p1 q1 118 1995 (by decide) (by decide) (Or.inr hsum)
  have hne : mg (fadd (fdiv one64 a') (fdiv one64 b')) ≠ 0 := fun e => by
    have h1 := (rk_fadd (fdiv one64 a') (fdiv one64 b') p1.fx q1.fx p1.finx q1.finx).1
    have h0 : rk (fadd (fdiv one64 a') (fdiv one64 b')) = 0 := by unfold rk; rw [e]; split <;> rfl
    rw [h0] at h1
    have hp : (0 : Nat) < Q51 118 := Q51_pos _
    have ha := p1.finx
    -- the sum is no less than one of the two
    cases hg : ng (fdiv one64 b')
    · have g1 := n1.2 hg
      have g2 := n2.2 hg
      have m1 : rz (-1074) (SV (fdiv one64 a')) ≤ rz (-1074) (SV (fdiv one64 a') + SV (fdiv one64 b')) := rz_mono _ (by decide) (by omega)
      rw [rz_SV _ p1.finx, ← h1] at m1
      have : rk (fdiv one64 a') = mg (fdiv one64 a') := rk_of_pos (by rw [hsg]; exact hg)
      omega
    · have g1 := n1.1 hg
      have g2 := n2.1 hg
      have m1 : rz (-1074) (SV (fdiv one64 a') + SV (fdiv one64 b')) ≤ rz (-1074) (SV (fdiv one64 a')) := rz_mono _ (by decide) (by omega)
      rw [rz_SV _ p1.finx, ← h1] at m1
      have : rk (fdiv one64 a') = -(mg (fdiv one64 a') : Int) := rk_of_neg (by rw [hsg]; exact hg)
      omega
  obtain ⟨w1, w2, _, _⟩ := tw_den ts two_rg rs t3 hne (by decide) (by decide) (by decide) 50 1929 (by decide) (by decide) (by decide) (by decide)
  exact ⟨w1, w2⟩
theorem sl_tw {X : List Int} {Y Y' : List Nat} {n : Nat} (h : TwT X Y Y' n) {k : Nat} (hk : k < n) : Tw (slT X Y n k) (slT X Y' n k) ∧ Rg (slT X Y n k) 50 1929 := by
  unfold slT
  by_cases h1 : n = 1
  · rw [if_pos h1, if_pos h1]; exact ⟨tw_zero, ⟨by decide⟩, Or.inl mg_0⟩
  · rw [if_neg h1, if_neg h1]
    by_cases h2 : k = 0
    · rw [if_pos h2, if_pos h2]
      have := rs_tw h (k := 0) (by omega)
      exact ⟨this.1, this.2.mono (by decide) (by decide)⟩
    · rw [if_neg h2, if_neg h2]
      by_cases h3 : k + 1 = n
      · rw [if_pos h3, if_pos h3]
        have := rs_tw h (k := n - 2) (by omega)
        exact ⟨this.1, this.2.mono (by decide) (by decide)⟩
      · rw [if_neg h3, if_neg h3]
        have a := rs_tw h (k := k - 1) (by omega)
        have b := rs_tw h (k := k) (by omega)
        exact hm_tw a.1 b.1 a.2 b.2
theorem q_tw {X : List Int} {Y Y' : List Nat} {n : Nat} (h : TwT X Y Y' n) {k j : Nat} (hk : k + 1 < n) (hj : j < n) :
    Tw (fdiv (fmul (slT X Y n j) (FI (X.getD (k + 1) 0 - X.getD k 0))) thr64) (fdiv (fmul (slT X Y' n j) (FI (X.getD (k + 1) 0 - X.getD k 0))) thr64) ∧ Rg (fdiv (fmul (slT X Y n j) (FI (X.getD (k + 1) 0 - X.getD k 0))) thr64) 47 1948 := by
  obtain ⟨s1, s2⟩ := sl_tw h hj
  obtain ⟨f1, f2⟩ := h.fi hk
  obtain ⟨m1, m2⟩ := tw_mul s1 s2 f1 f2 (by decide) (by decide) (by decide) 50 1948 (by decide) (by decide) (by decide) (by decide)
  exact tw_num m1 m2 thr_rg thr_ok.2.2.1 (by decide) (by decide) (by decide) 47 1948 (by decide) (by decide) (by decide) (by decide)
/-- A sum of a value and a step, or its difference. -/
theorem pt_z {a q : Nat} (ra : Rg a 123 1923) (rq : Rg q 47 1948) (z : Int) (hz : z = SV a + SV q ∨ z = SV a - SV q) :
    (z = 0 ∨ (Q51 47 ≤ z.natAbs ∧ z.natAbs < Q51 1950)) ∧ z.natAbs < Q51 1950 ∧ (mg a ≠ 0 → Q51 122 ≤ z.natAbs ∨ ((2 ^ 121 : Nat) : Int) ∣ z) := by
  have ua := ra.up (by decide) (by decide)
  have uq := rq.up (by decide) (by decide)
  have p1 : Q51 1923 ≤ Q51 1948 := Q51_le (by decide)
  have p2 : Q51 1948 + Q51 1948 = Q51 (1948 + 1) := Q51_two 1948
  have p3 : Q51 (1948 + 1) < Q51 1950 := Q51_lt (by decide)
  have top : z.natAbs < Q51 1950 := by
    generalize Q51 (1948 + 1) = A at *
    generalize Q51 1948 = B at *
    generalize Q51 1950 = C at *
    generalize Q51 1923 = D at *
    omega
  by_cases h : mg a = 0
  · have hs := SV_mg0' a h
    rw [hs] at hz
    refine ⟨?_, top, fun e => absurd h e⟩
    rcases rq.sv (by decide) (by decide) with e | ⟨e, _⟩
    · left; omega
    · right; refine ⟨?_, top⟩
      generalize Q51 47 = A at *
      rcases hz with hz | hz <;> omega
  · have sa := (ra.sv (by decide) (by decide)).resolve_left fun e => by
      have : VV (mg a) = 0 := by rw [← SV_abs, e]; rfl
      exact h (VV_inj (this.trans VV_zero.symm))
    have key : Q51 122 ≤ z.natAbs ∨ ((2 ^ 121 : Nat) : Int) ∣ z := by
      have da := ra.dvd (by decide)
      have da' : ((2 ^ 121 : Nat) : Int) ∣ SV a := Int.dvd_trans (Int.natCast_dvd_natCast.2 (Nat.pow_dvd_pow 2 (by decide))) da
      have e1 : Q51 123 = 2 * Q51 122 := Q51_dbl 122
      have s1 := sa.1
      rw [e1] at s1
      by_cases hq : 2 * (SV q).natAbs < (SV a).natAbs
      · left
        generalize Q51 122 = A at *
        rcases hz with hz | hz <;> omega
      · right
        have e3 : Q51 122 ≤ (SV q).natAbs := by
          generalize Q51 122 = A at *
          omega
        have rq2 : Rg q 122 1948 := rg_of_sv rq.fx 122 1948 (by decide) (by decide) (Or.inr ⟨e3, uq⟩)
        have dq := rq2.dvd (by decide)
        rcases hz with hz | hz
        · rw [hz]; exact Int.dvd_add da' dq
        · rw [hz]; exact Int.dvd_sub da' dq
    refine ⟨?_, top, fun _ => key⟩
    rcases key with e | e
    · exact Or.inr ⟨Nat.le_trans (Q51_le (by decide)) e, top⟩
    · rcases dvd_ge e with e | e
      · exact Or.inl e
      · exact Or.inr ⟨Nat.le_trans (Q51_le_pow (by decide)) e, top⟩
/-- A point of the cubic, ahead of being held. -/
theorem pt_tw {a q x y : Nat} (ra : Rg a 123 1923) (rq : Rg q 47 1948) (z : Int) (hz : z = SV a + SV q ∨ z = SV a - SV q) (fx : F64 x) (fy : F64 y) (hx : rk x = rz (-1074) z) (hy : rk y = rz (-1074) (2 * z)) :
    Tw x y ∧ (mg a ≠ 0 → ((2 ^ 121 : Nat) : Int) ∣ SV x) := by
  obtain ⟨k1, k2, k3⟩ := pt_z ra rq z hz
  refine ⟨(tw_rz fx fy hx hy 47 1950 (by decide) (by decide) k1).1, fun h => ?_⟩
  rcases k3 h with e | e
  · exact (tw_rz fx fy hx hy 122 1950 (by decide) (by decide) (Or.inr ⟨e, k2⟩)).2.dvd (by decide)
  · by_cases hb : z.natAbs < 2 ^ (121 + 53)
    · rw [rz_exact hx e (by decide) (by decide) hb]; exact e
    · have : Q51 122 ≤ z.natAbs := Nat.le_trans (Q51_le_pow (by decide)) (Nat.le_of_not_lt hb)
      exact (tw_rz fx fy hx hy 122 1950 (by decide) (by decide) (Or.inr ⟨this, k2⟩)).2.dvd (by decide)
theorem hld_dvd {v a b : Nat} {k : Int} (hv : k ∣ SV v) (ha : k ∣ SV a) (hb : k ∣ SV b) : k ∣ SV (hld v a b) := by
  rcases hld_ways v a b with h | h | h <;> rw [h] <;> assumption
theorem Rg.dvd121 {a : Nat} (ra : Rg a 123 1923) : ((2 ^ 121 : Nat) : Int) ∣ SV a := Int.dvd_trans (Int.natCast_dvd_natCast.2 (Nat.pow_dvd_pow 2 (by decide))) (ra.dvd (by decide))
theorem pc_tw {X : List Int} {Y Y' : List Nat} {n k : Nat} (h : TwT X Y Y' n) (hk : k + 1 < n) :
    Tw (pcT X Y n k) (pcT X Y' n k) ∧ (mg (Y.getD k 0) ≠ 0 → ((2 ^ 121 : Nat) : Int) ∣ SV (pcT X Y n k)) := by
  obtain ⟨q1, q2⟩ := q_tw h hk (show k < n by omega)
  have ra := h.rg k (by omega)
  have ta := h.tw k (by omega)
  have tb := h.tw (k + 1) hk
  obtain ⟨p1, p2⟩ := pt_tw (x := fadd (Y.getD k 0) (fdiv (fmul (slT X Y n k) (FI (X.getD (k + 1) 0 - X.getD k 0))) thr64)) (y := fadd (Y'.getD k 0) (fdiv (fmul (slT X Y' n k) (FI (X.getD (k + 1) 0 - X.getD k 0))) thr64)) ra q2 _ (Or.inl rfl) (F64_fadd _ _) (F64_fadd _ _)
    (rk_fadd _ _ ta.fx q1.fx ta.finx q1.finx).1 (by rw [(rk_fadd _ _ ta.fy q1.fy ta.finy q1.finy).1, ta.sv, q1.sv, ← Int.mul_add])
  exact ⟨tw_hld p1 ta tb, fun ha => hld_dvd (p2 ha) ra.dvd121 (h.rg (k + 1) hk).dvd121⟩
theorem pe_tw {X : List Int} {Y Y' : List Nat} {n k : Nat} (h : TwT X Y Y' n) (hk : k + 1 < n) :
    Tw (peT X Y n k) (peT X Y' n k) ∧ (mg (Y.getD k 0) ≠ 0 → mg (Y.getD (k + 1) 0) ≠ 0 → ((2 ^ 121 : Nat) : Int) ∣ SV (peT X Y n k)) := by
  obtain ⟨q1, q2⟩ := q_tw h hk (show k + 1 < n by omega)
  have rb := h.rg (k + 1) hk
  have tb := h.tw (k + 1) hk
  obtain ⟨c1, c2⟩ := pc_tw h hk
  obtain ⟨p1, p2⟩ := pt_tw (x := fsub (Y.getD (k + 1) 0) (fdiv (fmul (slT X Y n (k + 1)) (FI (X.getD (k + 1) 0 - X.getD k 0))) thr64)) (y := fsub (Y'.getD (k + 1) 0) (fdiv (fmul (slT X Y' n (k + 1)) (FI (X.getD (k + 1) 0 - X.getD k 0))) thr64)) rb q2 _ (Or.inr rfl) (F64_fsub _ _) (F64_fsub _ _)
    (rk_fsub _ _ tb.fx q1.fx tb.finx q1.finx).1 (by rw [(rk_fsub _ _ tb.fy q1.fy tb.finy q1.finy).1, tb.sv, q1.sv, ← Int.mul_sub])
  exact ⟨tw_hld p1 c1 tb, fun ha hb => hld_dvd (p2 hb) (c2 ha) rb.dvd121⟩

end Go.Proofs.Yteikihidblcljaa

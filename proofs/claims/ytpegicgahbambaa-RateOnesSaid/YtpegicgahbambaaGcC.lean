/- Plain: no rate or no time gives the factor 1; a factor that is told is a number above 0; of the factor 1 the rate is 0. No program. -/
import Derived.Test.YtpegicgahbambaaGpC
import Derived.Test.YtpegicgahbambaaFsC
import Derived.Test.YtpegicgahbambaaFwC
namespace Go.Proofs.Ytpegicgahbambaa
set_option linter.unusedVariables false
set_option linter.unusedSimpArgs false

theorem of_rk {x y : Nat} (hx : F64 x) (hy : F64 y) (h : rk x = rk y) (h0 : rk y ≠ 0) : x = y := by
  have a := hx.out
  have b := hy.out
  have e : ∀ z, rk z = if 9223372036854775808 ≤ z then -((z % 9223372036854775808 : Nat) : Int) else ((z % 9223372036854775808 : Nat) : Int) := fun z => by
    unfold rk ng mg; simp only [decide_eq_true_eq]
  rw [e x, e y] at h
  rw [e y] at h0
  split at h <;> split at h <;> omega

theorem rk0_two {z : Nat} (hz : F64 z) (h : rk z = 0) : z = 0 ∨ z = 9223372036854775808 := by
  have a := hz.out
  have e : ∀ z, rk z = if 9223372036854775808 ≤ z then -((z % 9223372036854775808 : Nat) : Int) else ((z % 9223372036854775808 : Nat) : Int) := fun z => by
    unfold rk ng mg; simp only [decide_eq_true_eq]
  rw [e z] at h
  split at h <;> omega

theorem fin0 {z : Nat} (h : rk z = 0) : fin z = true := by rw [rk_fin]; omega
theorem SV0 {z : Nat} (h : rk z = 0) : SV z = 0 := by
  have := SV_of_rk (x := z) (y := 0) (by rw [h]; decide +kernel)
  rw [this]; decide +kernel
theorem rk_flip0 {z : Nat} (hz : F64 z) (h : rk z = 0) : rk (flip64 z) = 0 := by
  rcases rk0_two hz h with rfl | rfl
  · decide +kernel
  · decide +kernel

theorem mul0l {z q : Nat} (hz : F64 z) (hq : F64 q) (h : rk z = 0) (fq : fin q = true) : rk (fmul z q) = 0 := by
  rw [(rk_fmul z q hz hq (fin0 h) fq).1, SV0 h, Int.zero_mul, rz_zero _ (by decide)]
theorem mul0r {z q : Nat} (hz : F64 z) (hq : F64 q) (h : rk z = 0) (fq : fin q = true) : rk (fmul q z) = 0 := by
  rw [(rk_fmul q z hq hz fq (fin0 h)).1, SV0 h, Int.mul_zero, rz_zero _ (by decide)]
theorem div0l {z q : Nat} (hz : F64 z) (hq : F64 q) (h : rk z = 0) (fq : fin q = true) (h0 : 0 < rk q) : rk (fdiv z q) = 0 := by
  rw [(rk_fdiv z q hz hq (fin0 h) fq h0).1, SV0 h]
  have : zq 0 (VV (mg q)) = 0 := by unfold zq; rw [if_neg (by decide), show (0 : Int).natAbs = 0 from rfl, q2_zero]; rfl
  rw [this, rz_zero _ (by rw [qK_eq]; decide)]
theorem one_add0 {z : Nat} (hz : F64 z) (h : rk z = 0) : fadd oneW z = oneW := by
  refine of_rk (F64_fadd _ _) one_w.w ?_ (by decide +kernel)
  rw [(rk_fadd oneW z one_w.w hz one_w.f (fin0 h)).1, SV0 h, Int.add_zero, rz_SV _ one_w.f]
theorem exp0 {z : Nat} (hz : F64 z) (h : rk z = 0) : fexp z = oneW := by
  rcases rk0_two hz h with rfl | rfl
  · decide +kernel
  · decide +kernel
theorem ln1 : rk (fln oneW) = 0 := by decide +kernel

/-- A number from lo to hi. -/
structure Btw (lo x hi : Nat) : Prop where
  w : F64 x
  f : fin x = true
  l : rk lo ≤ rk x
  h : rk x ≤ rk hi

theorem Btw.add {a u b c v d : Nat} (h : Btw a u b) (h' : Btw c v d) (ha : F64 a) (hb : F64 b) (hc : F64 c) (hd : F64 d) (fa : fin a = true) (fb : fin b = true) (fc : fin c = true) (fd : fin d = true) (f1 : fin (fadd a c) = true) (f2 : fin (fadd b d) = true) : Btw (fadd a c) (fadd u v) (fadd b d) := by
  have l := fadd_mono a u c v ha h.w hc h'.w fa h.f fc h'.f h.l h'.l
  have r := fadd_mono u b v d h.w hb h'.w hd h.f fb h'.f fd h.h h'.h
  exact ⟨F64_fadd _ _, fin_mid _ _ _ l r f1 f2, l, r⟩

theorem Btw.sub {a u b c v d : Nat} (h : Btw a u b) (h' : Btw c v d) (ha : F64 a) (hb : F64 b) (hc : F64 c) (hd : F64 d) (fa : fin a = true) (fb : fin b = true) (fc : fin c = true) (fd : fin d = true) (f1 : fin (fsub a d) = true) (f2 : fin (fsub b c) = true) : Btw (fsub a d) (fsub u v) (fsub b c) := by
  have l := fsub_mono a u d v ha h.w hd h'.w fa h.f fd h'.f h.l h'.h
  have r := fsub_mono u b v c h.w hb h'.w hc h.f fb h'.f fc h.h h'.l
  exact ⟨F64_fsub _ _, fin_mid _ _ _ l r f1 f2, l, r⟩

/-- A factor from -a to a, one from 0 to b. -/
theorem Btw.mul {a n u v b : Nat} (h : Btw n u a) (h' : Btw 0 v b) (ha : F64 a) (hn : F64 n) (hb : F64 b) (fa : fin a = true) (fn : fin n = true) (fb : fin b = true) (n0 : rk n ≤ 0) (a0 : 0 ≤ rk a) (f1 : fin (fmul n b) = true) (f2 : fin (fmul a b) = true) : Btw (fmul n b) (fmul u v) (fmul a b) := by
  have v0 : 0 ≤ rk v := by have := h'.l; rw [z0_facts.2.2] at this; exact this
  have sn := SV_nonpos n0
  have sa := SV_nonneg a0
  have sv := SV_nonneg v0
  have vb := SV_le.2 h'.h
  have nu := SV_le.2 h.l
  have ua := SV_le.2 h.h
  have l : rk (fmul n b) ≤ rk (fmul u v) := by
    rw [(rk_fmul n b hn hb fn fb).1, (rk_fmul u v h.w h'.w h.f h'.f).1]
    exact rz_mono _ (by decide) (Int.le_trans (Int.mul_le_mul_of_nonpos_left sn vb) (Int.mul_le_mul_of_nonneg_right nu sv))
  have r : rk (fmul u v) ≤ rk (fmul a b) := by
    rw [(rk_fmul a b ha hb fa fb).1, (rk_fmul u v h.w h'.w h.f h'.f).1]
    exact rz_mono _ (by decide) (Int.le_trans (Int.mul_le_mul_of_nonneg_right ua sv) (Int.mul_le_mul_of_nonneg_left vb sa))
  exact ⟨F64_fmul _ _, fin_mid _ _ _ l r f1 f2, l, r⟩

theorem zq_anti_neg {z : Int} {B B' : Nat} (hB : 0 < B) (h : B ≤ B') (hz : z ≤ 0) : zq z B ≤ zq z B' := by
  have hB' : 0 < B' := by omega
  unfold zq
  have hm := q2_mono (A := z.natAbs) (A' := z.natAbs) hB' hB (Nat.mul_le_mul_left _ h)
  split
  · omega
  · have : z.natAbs = 0 := by omega
    rw [this, q2_zero, q2_zero]; omega
theorem fdiv_anti_neg (u v v' : Nat) (a1 : F64 u) (a2 : F64 v) (a3 : F64 v') (b1 : fin u = true) (b2 : fin v = true) (b3 : fin v' = true) (hu : rk u ≤ 0) (h : rk v ≤ rk v') (h0 : 0 < rk v) : rk (fdiv u v) ≤ rk (fdiv u v') := by
  have h0' : 0 < rk v' := by omega
  rw [(rk_fdiv u v a1 a2 b1 b2 h0).1, (rk_fdiv u v' a1 a3 b1 b3 h0').1]
  refine rz_mono _ (by rw [qK_eq]; decide) (zq_anti_neg (VV_pos_of v h0).1 ?_ (SV_nonpos hu))
  have := SV_le.2 h
  have := (VV_pos_of v h0).2
  have := (VV_pos_of v' h0').2
  omega
/-- Divided by what is at least 1. -/
theorem Btw.div {a n u v b : Nat} (h : Btw n u a) (h' : Btw oneW v b) (ha : F64 a) (hn : F64 n) (fa : fin a = true) (fn : fin n = true) (n0 : rk n ≤ 0) (a0 : 0 ≤ rk a) (f1 : fin (fdiv n oneW) = true) (f2 : fin (fdiv a oneW) = true) : Btw (fdiv n oneW) (fdiv u v) (fdiv a oneW) := by
  have o0 : 0 < rk oneW := by decide +kernel
  have v0 : 0 < rk v := by have := h'.l; omega
  have l : rk (fdiv n oneW) ≤ rk (fdiv u v) := Int.le_trans (fdiv_anti_neg n oneW v hn one_w.w h'.w fn one_w.f h'.f n0 h'.l o0) (fdiv_mono n u v hn h.w h'.w fn h.f h'.f h.l v0)
  have r : rk (fdiv u v) ≤ rk (fdiv a oneW) := Int.le_trans (fdiv_mono u a v h.w ha h'.w h.f fa h'.f h.h v0) (fdiv_anti a oneW v ha one_w.w h'.w fa one_w.f h'.f a0 h'.l o0)
  exact ⟨F64_fdiv _ _, fin_mid _ _ _ l r f1 f2, l, r⟩

theorem btw_c (c : Nat) (h : F64 c) (f : fin c = true) : Btw c c c := ⟨h, f, Int.le_refl _, Int.le_refl _⟩

-- a number's logarithm is a number
theorem lnM_btw (x : Nat) (h0 : mnt x ≠ 0) : Btw halfW (lnM x) twoW := by
  obtain ⟨a, b, _, _⟩ := lnR_bd x h0
  have hw := lnM0_w x h0
  have hr := (lnM0_row x h0).1
  have r0 : rk (lnM0 x) = ((4602678819172646912 + lnR x : Nat) : Int) := by
    rw [hr]; unfold rk; rw [ng_small _ (by omega), mg_small _ (by omega)]; rfl
  have e1 : rk oneW = 4607182418800017408 := by decide +kernel
  have e2 : rk twoW = 4611686018427387904 := by decide +kernel
  have e3 : rk halfW ≤ rk oneW := by decide +kernel
  have B : Btw oneW (lnM0 x) twoW := ⟨hw.w, hw.f, by omega, by omega⟩
  unfold lnM
  split
  · have l := fmul_mono oneW (lnM0 x) halfW one_w.w B.w half_w.w one_w.f B.f half_w.f B.l (by decide +kernel)
    have r := fmul_mono (lnM0 x) twoW halfW B.w two_w.w half_w.w B.f two_w.f half_w.f B.h (by decide +kernel)
    have l' : rk (fmul oneW halfW) = rk halfW := by decide +kernel
    have r' : rk (fmul twoW halfW) ≤ rk twoW := by decide +kernel
    refine ⟨F64_fmul _ _, fin_mid _ _ _ l r (by decide +kernel) (by decide +kernel), by omega, by omega⟩
  · exact ⟨B.w, B.f, by have := B.l; omega, B.h⟩

theorem lnC_up : okUp oneW lnC = true := by decide +kernel

abbrev moneW : Nat := 13830554455654793216
theorem lnS_btw (m : Nat) (h : Btw halfW m twoW) : Btw moneW (lnS m) oneW := by
  have o := btw_c oneW one_w.w one_w.f
  have n := h.sub o half_w.w two_w.w one_w.w one_w.w half_w.f two_w.f one_w.f one_w.f (by decide +kernel) (by decide +kernel)
  have d := h.add o half_w.w two_w.w one_w.w one_w.w half_w.f two_w.f one_w.f one_w.f (by decide +kernel) (by decide +kernel)
  have d' : Btw oneW (fadd m oneW) (fadd twoW oneW) := ⟨d.w, d.f, Int.le_trans (by decide +kernel) d.l, d.h⟩
  have n' : Btw moneW (fsub m oneW) oneW := ⟨n.w, n.f, Int.le_trans (by decide +kernel) n.l, Int.le_trans n.h (by decide +kernel)⟩
  have q := n'.div d' one_w.w ⟨by decide⟩ one_w.f (by decide +kernel) (by decide +kernel) (by decide +kernel) (by decide +kernel) (by decide +kernel)
  unfold lnS
  exact ⟨q.w, q.f, Int.le_trans (by decide +kernel) q.l, Int.le_trans q.h (by decide +kernel)⟩

theorem sq_btw (s : Nat) (h : Btw moneW s oneW) : Btw 0 (fmul s s) oneW := by
  have a := SV_le.2 h.l
  have b := SV_le.2 h.h
  have e1 : SV moneW = -SV oneW := by decide +kernel
  rw [e1] at a
  have l : rk 0 ≤ rk (fmul s s) := by
    rw [(rk_fmul s s h.w h.w h.f h.f).1, z0_facts.2.2]
    have hsq : 0 ≤ SV s * SV s := by
      rcases Int.le_total 0 (SV s) with g | g
      · exact Int.mul_nonneg g g
      · exact Int.mul_nonneg_of_nonpos_of_nonpos g g
    have := rz_mono (z := 0) (z' := SV s * SV s) (-2148) (by decide) hsq
    rwa [rz_zero _ (by decide)] at this
  have r : rk (fmul s s) ≤ rk (fmul oneW oneW) := by
    rw [(rk_fmul s s h.w h.w h.f h.f).1, (rk_fmul oneW oneW one_w.w one_w.w one_w.f one_w.f).1]
    refine rz_mono _ (by decide) ?_
    generalize SV oneW = U at *
    generalize SV s = S at *
    rcases Int.le_total 0 S with g | g
    · exact Int.mul_le_mul b b g (by omega)
    · have := Int.mul_le_mul (a := -S) (b := -S) (c := U) (d := U) (by omega) (by omega) (by omega) (by omega)
      rwa [Int.neg_mul_neg] at this
  have e : rk (fmul oneW oneW) = rk oneW := by decide +kernel
  exact ⟨F64_fmul _ _, fin_mid _ _ _ l r (by decide +kernel) (by decide +kernel), l, by omega⟩

theorem int_btw (n : Int) (h1 : -1100 ≤ n) (h2 : n ≤ 1100) : Btw (floatOfInt .f64 (-1100)) (floatOfInt .f64 n) (floatOfInt .f64 1100) := by
  obtain ⟨a, b, c, _⟩ := int_float n (by omega) (by omega)
  obtain ⟨a1, b1, c1, _⟩ := int_float (-1100) (by decide) (by decide)
  obtain ⟨a2, b2, c2, _⟩ := int_float 1100 (by decide) (by decide)
  have hU := U1_pos
  have hU : 0 ≤ (U1 : Int) := by omega
  exact ⟨c, b, SV_le.1 (by rw [a, a1]; exact Int.mul_le_mul_of_nonneg_right h1 hU), SV_le.1 (by rw [a, a2]; exact Int.mul_le_mul_of_nonneg_right h2 hU)⟩

theorem exq_hi : F64 highW ∧ fin highW = true ∧ 0 ≤ rk highW ∧ F64 lowW ∧ fin lowW = true ∧ 0 ≤ rk lowW := ⟨⟨by decide⟩, by decide +kernel, by decide +kernel, ⟨by decide⟩, by decide +kernel, by decide +kernel⟩

theorem fln_fin (b : Nat) (hb : F64 b) (fb : fin b = true) (h : 0 < rk b) : fin (fln b) = true := by
  have gb : ng b = false := by
    cases hg : ng b
    · rfl
    · rw [rk_of_neg hg] at h; omega
  have mb : mg b ≠ 0 := fun e => by rw [rk_of_pos gb, e] at h; omega
  have hm : mnt b ≠ 0 := fun e => mb ((mnt_zero b).1 e)
  have hi : mg b ≠ INF := fun e => by unfold fin at fb; rw [e] at fb; simp at fb
  have e : fln b = lnV (lnM b) (lnN b) := by
    unfold fln
    rw [nn_fin b fb, if_neg (by decide), if_neg mb, gb, if_neg (by decide), if_neg hi]
  rw [e]
  obtain ⟨n1, n2⟩ := lnN_bd b fb hm
  have S := lnS_btw _ (lnM_btw b hm)
  have Z := sq_btw _ S
  obtain ⟨u1, _, u2, _, u3, u4⟩ := horn_up oneW _ one_w.w one_w.f Z.w Z.f (by have := Z.l; rw [z0_facts.2.2] at this; exact this) Z.h lnC (by unfold lnC; simp) lnC_up
  have P : Btw 0 (horn lnC (fmul (lnS (lnM b)) (lnS (lnM b)))) (horn lnC oneW) := ⟨u1, u2, by rw [z0_facts.2.2]; exact u3, u4⟩
  have HX : F64 (horn lnC oneW) := ⟨by decide +kernel⟩
  have T : Btw (fmul twoW moneW) (fmul twoW (lnS (lnM b))) (fmul twoW oneW) := by
    have sl := SV_le.2 S.l
    have sh := SV_le.2 S.h
    have t0 : 0 ≤ SV twoW := by decide +kernel
    have l : rk (fmul twoW moneW) ≤ rk (fmul twoW (lnS (lnM b))) := by
      rw [(rk_fmul twoW moneW two_w.w ⟨by decide⟩ two_w.f (by decide +kernel)).1, (rk_fmul twoW _ two_w.w S.w two_w.f S.f).1]
      exact rz_mono _ (by decide) (Int.mul_le_mul_of_nonneg_left sl t0)
    have r : rk (fmul twoW (lnS (lnM b))) ≤ rk (fmul twoW oneW) := by
      rw [(rk_fmul twoW oneW two_w.w one_w.w two_w.f one_w.f).1, (rk_fmul twoW _ two_w.w S.w two_w.f S.f).1]
      exact rz_mono _ (by decide) (Int.mul_le_mul_of_nonneg_left sh t0)
    exact ⟨F64_fmul _ _, fin_mid _ _ _ l r (by decide +kernel) (by decide +kernel), l, r⟩
  have Q := T.mul P (F64_fmul _ _) (F64_fmul _ _) HX (by decide +kernel) (by decide +kernel) (by decide +kernel) (by decide +kernel) (by decide +kernel) (by decide +kernel) (by decide +kernel)
  have I := int_btw (lnN b) n1 n2
  obtain ⟨hw, hf, h0, lw, lf, l0⟩ := exq_hi
  have i1 : F64 (floatOfInt .f64 (-1100)) := ⟨by decide +kernel⟩
  have i2 : F64 (floatOfInt .f64 1100) := ⟨by decide +kernel⟩
  have J : Btw (fmul (floatOfInt .f64 (-1100)) highW) (fmul (floatOfInt .f64 (lnN b)) highW) (fmul (floatOfInt .f64 1100) highW) := by
    have l := fmul_mono _ _ highW i1 I.w hw (by decide +kernel) I.f hf I.l h0
    have r := fmul_mono _ _ highW I.w i2 hw I.f (by decide +kernel) hf I.h h0
    exact ⟨F64_fmul _ _, fin_mid _ _ _ l r (by decide +kernel) (by decide +kernel), l, r⟩
  have K : Btw (fmul (floatOfInt .f64 (-1100)) lowW) (fmul (floatOfInt .f64 (lnN b)) lowW) (fmul (floatOfInt .f64 1100) lowW) := by
    have l := fmul_mono _ _ lowW i1 I.w lw (by decide +kernel) I.f lf I.l l0
    have r := fmul_mono _ _ lowW I.w i2 lw I.f (by decide +kernel) lf I.h l0
    exact ⟨F64_fmul _ _, fin_mid _ _ _ l r (by decide +kernel) (by decide +kernel), l, r⟩
  have A := Q.add K (F64_fmul _ _) (F64_fmul _ _) (F64_fmul _ _) (F64_fmul _ _) (by decide +kernel) (by decide +kernel) (by decide +kernel) (by decide +kernel) (by decide +kernel) (by decide +kernel)
  have R := J.add A (F64_fmul _ _) (F64_fmul _ _) (F64_fadd _ _) (F64_fadd _ _) (by decide +kernel) (by decide +kernel) (by decide +kernel) (by decide +kernel) (by decide +kernel) (by decide +kernel)
  exact R.f

-- 1 + r / m
abbrev maxW : Nat := 9218868437227405311
abbrev minW : Nat := 18442240474082181119
/-- The least above -1. -/
abbrev aboW : Nat := 13830554455654793215
theorem onem_row (k : Int) (h1 : 2 ≤ k) (h2 : k ≤ 5) : fin (fdiv minW (rtM k)) = true ∧ fin (fdiv maxW (rtM k)) = true ∧ fin (fadd oneW (fdiv minW (rtM k))) = true ∧ fin (fadd oneW (fdiv maxW (rtM k))) = true ∧ fin (fdiv aboW (rtM k)) = true ∧ 0 < rk (fadd oneW (fdiv aboW (rtM k))) := by
  rcases (by omega : k = 2 ∨ k = 3 ∨ k = 4 ∨ k = 5) with rfl | rfl | rfl | rfl
  · decide +kernel
  · decide +kernel
  · decide +kernel
  · decide +kernel
theorem onem (k : Int) (r : Nat) (h1 : 2 ≤ k) (h2 : k ≤ 5) (hr : F64 r) (fr : fin r = true) : fin (fdiv r (rtM k)) = true ∧ fin (fadd oneW (fdiv r (rtM k))) = true ∧ (rk moneW < rk r → 0 < rk (fadd oneW (fdiv r (rtM k)))) := by
  obtain ⟨a1, a2, a3, a4, a5, a6⟩ := onem_row k h1 h2
  obtain ⟨m1, m2, m3, m4⟩ := rtM_row k h1 h2
  have o0 : 0 < rk oneW := by decide +kernel
  have e1 : rk maxW = 9218868437227405311 := by decide +kernel
  have e2 : rk minW = -9218868437227405311 := by decide +kernel
  have hb := (rk_fin r).1 fr
  have fx : F64 maxW := ⟨by decide⟩
  have fm : F64 minW := ⟨by decide⟩
  have l := fdiv_mono minW r (rtM k) fm hr m1 (by decide +kernel) fr m2 (by omega) (by omega)
  have u := fdiv_mono r maxW (rtM k) hr fx m1 fr (by decide +kernel) m2 (by omega) (by omega)
  have f1 := fin_mid _ _ _ l u a1 a2
  have l2 := fadd_mono oneW oneW (fdiv minW (rtM k)) (fdiv r (rtM k)) one_w.w one_w.w (F64_fdiv _ _) (F64_fdiv _ _) one_w.f one_w.f a1 f1 (Int.le_refl _) l
  have u2 := fadd_mono oneW oneW (fdiv r (rtM k)) (fdiv maxW (rtM k)) one_w.w one_w.w (F64_fdiv _ _) (F64_fdiv _ _) one_w.f one_w.f f1 a2 (Int.le_refl _) u
  refine ⟨f1, fin_mid _ _ _ l2 u2 a3 a4, fun h => ?_⟩
  have e3 : rk aboW = rk moneW + 1 := by decide +kernel
  have l3 := fdiv_mono aboW r (rtM k) ⟨by decide⟩ hr m1 (by decide +kernel) fr m2 (by omega) (by omega)
  have l4 := fadd_mono oneW oneW (fdiv aboW (rtM k)) (fdiv r (rtM k)) one_w.w one_w.w (F64_fdiv _ _) (F64_fdiv _ _) one_w.f one_w.f a5 f1 (Int.le_refl _) l3
  omega

theorem okK_iff (k : Int) : okK k = true ↔ (1 ≤ k ∧ k ≤ 6) := by unfold okK; simp

theorem facA_one (k : Int) (r t : Nat) (hk : okK k = true) (fr : fin r = true) (ht : okT t = true) (hB : ltB 0 (rtB k r t) = true) (hF : rtF k r t = oneW) : facA k r t = (oneW, 0) := by
  unfold facA
  rw [hk, if_neg (by decide), fr, ht, if_neg (by decide), hB, if_neg (by decide), hF, if_neg (by decide +kernel)]

theorem ltB_pos (b : Nat) (fb : fin b = true) (h : 0 < rk b) : ltB 0 b = true := by
  unfold ltB; rw [z0_facts.2.1, z0_facts.2.2, nn_fin b fb]; simpa using h

/-- No rate. -/
theorem ones_r (k : Int) (t : Nat) (hk : okK k = true) (ht : F64 t) (ok : okT t = true) : facA k 0 t = (oneW, 0) := by
  obtain ⟨k1, k6⟩ := (okK_iff k).1 hk
  obtain ⟨ft, t0, t1⟩ := (okT_iff t).1 ok
  have z : F64 0 := z0_facts.1
  have zr : rk 0 = 0 := z0_facts.2.2
  have o : ltB 0 oneW = true := by decide +kernel
  by_cases h1 : k = 1
  · subst h1
    have e : fadd oneW (fmul 0 t) = oneW := one_add0 (F64_fmul _ _) (mul0l z ht zr ft)
    exact facA_one 1 0 t hk (by decide +kernel) ok (by rw [rt1B, e]; exact o) (by rw [rt1F, e]; decide +kernel)
  by_cases h6 : k = 6
  · subst h6
    exact facA_one 6 0 t hk (by decide +kernel) ok (ok6 _ _) (by rw [rt6F]; exact exp0 (F64_flip _) (rk_flip0 (F64_fmul _ _) (mul0l z ht zr ft)))
  · obtain ⟨m1, m2, m3, m4⟩ := rtM_row k (by omega) (by omega)
    have o0 : 0 < rk oneW := by decide +kernel
    have e : fadd oneW (fdiv 0 (rtM k)) = oneW := one_add0 (F64_fdiv _ _) (div0l z m1 zr m2 (by omega))
    refine facA_one k 0 t hk (by decide +kernel) ok (by rw [rtkB k _ _ h1 h6, e]; exact o) ?_
    rw [rtkF k _ _ h1 h6, e]
    exact exp0 (F64_flip _) (rk_flip0 (F64_fmul _ _) (mul0r (F64_fln _ one_w.w) (F64_fmul _ _) ln1 (mt_fin k t (by omega) (by omega) ht ok).1))

/-- No time. -/
theorem ones_t (k : Int) (r : Nat) (hk : okK k = true) (hr : F64 r) (fr : fin r = true) : facA k r 0 = (oneW, 0) ∨ ((facA k r 0).2 = 91 ∧ k ≠ 1 ∧ k ≠ 6 ∧ rk r ≤ rk moneW) := by
  obtain ⟨k1, k6⟩ := (okK_iff k).1 hk
  have z : F64 0 := z0_facts.1
  have zr : rk 0 = 0 := z0_facts.2.2
  have ok : okT 0 = true := by decide +kernel
  have o : ltB 0 oneW = true := by decide +kernel
  by_cases h1 : k = 1
  · subst h1
    have e : fadd oneW (fmul r 0) = oneW := one_add0 (F64_fmul _ _) (mul0r z hr zr fr)
    exact .inl (facA_one 1 r 0 hk fr ok (by rw [rt1B, e]; exact o) (by rw [rt1F, e]; decide +kernel))
  by_cases h6 : k = 6
  · subst h6
    exact .inl (facA_one 6 r 0 hk fr ok (ok6 _ _) (by rw [rt6F]; exact exp0 (F64_flip _) (rk_flip0 (F64_fmul _ _) (mul0r z hr zr fr))))
  · obtain ⟨m1, m2, m3, m4⟩ := rtM_row k (by omega) (by omega)
    obtain ⟨b1, b2, b3⟩ := onem k r (by omega) (by omega) hr fr
    by_cases hp : 0 < rk (fadd oneW (fdiv r (rtM k)))
    · refine .inl (facA_one k r 0 hk fr ok (by rw [rtkB k _ _ h1 h6]; exact ltB_pos _ b2 hp) ?_)
      rw [rtkF k _ _ h1 h6]
      refine exp0 (F64_flip _) (rk_flip0 (F64_fmul _ _) (mul0l (F64_fmul _ _) (F64_fln _ (F64_fadd _ _)) (mul0r z m1 zr m2) ?_))
      exact fln_fin _ (F64_fadd _ _) b2 hp
    · refine .inr ⟨?_, h1, h6, Decidable.byContradiction fun h => hp (b3 (by omega))⟩
      have hB : ltB 0 (rtB k r 0) = false := by
        rw [rtkB k _ _ h1 h6]; unfold ltB; rw [z0_facts.2.2, decide_eq_false hp, Bool.and_false]
      unfold facA
      rw [hk, if_neg (by decide), fr, ok, if_neg (by decide), hB, if_pos rfl]

theorem rtF_nonneg (k : Int) (r t : Nat) (hk : okK k = true) (hr : F64 r) (fr : fin r = true) (ht : F64 t) (ok : okT t = true) (hB : ltB 0 (rtB k r t) = true) (hF : fin (rtF k r t) = true) : 0 ≤ rk (rtF k r t) := by
  obtain ⟨k1, k6⟩ := (okK_iff k).1 hk
  have hE : ∀ y, F64 y → fin (fexp y) = true → 0 ≤ rk (fexp y) := fun y hy h => by
    cases hn : nn y
    · exact (fexp_pos y hy hn).2
    · unfold fexp at h; rw [hn, if_pos rfl] at h; exact absurd h (by decide +kernel)
  by_cases h1 : k = 1
  · subst h1
    rw [rt1F] at hF ⊢
    rw [rt1B] at hB
    have FB := F64_fadd oneW (fmul r t)
    generalize fadd oneW (fmul r t) = b at *
    have hb : nn b = false ∧ 0 < rk b := by
      unfold ltB at hB; rw [z0_facts.2.1, z0_facts.2.2] at hB; simp at hB; exact hB
    rcases ways b with ⟨h, _, _⟩ | ⟨_, h, _⟩ | ⟨_, _, h⟩
    · rw [hb.1] at h; cases h
    · rw [fdiv_fi _ _ one_w.w FB one_w.f h]
      have : ∀ u v, rk (sgw u v) = 0 := fun u v => by
        unfold sgw; split
        · decide +kernel
        · decide +kernel
      rw [this]; omega
    · exact fdiv_nonneg oneW b one_w.w FB one_w.f h (by decide +kernel) hb.2
  by_cases h6 : k = 6
  · subst h6
    rw [rt6F] at hF ⊢
    exact hE _ (F64_flip _) hF
  · rw [rtkF k _ _ h1 h6] at hF ⊢
    exact hE _ (F64_flip _) hF

/-- Any number, any time: a number above 0, or ErrValue. -/
theorem ones_c (k : Int) (r t : Nat) (hk : okK k = true) (hr : F64 r) (fr : fin r = true) (ht : F64 t) (ok : okT t = true) : ((facA k r t).2 = 0 ∧ fin (facA k r t).1 = true ∧ 0 < rk (facA k r t).1) ∨ (facA k r t).2 = 91 := by
  unfold facA
  rw [hk, if_neg (by decide), fr, ok, if_neg (by decide)]
  cases hB : ltB 0 (rtB k r t)
  · rw [if_pos rfl]; exact .inr rfl
  rw [if_neg (by decide)]
  cases hF : (fin (rtF k r t) && !(mg (rtF k r t) == 0))
  · rw [if_pos rfl]; exact .inr rfl
  rw [if_neg (by decide)]
  rw [Bool.and_eq_true] at hF
  have h0 := rtF_nonneg k r t hk hr fr ht ok hB hF.1
  refine .inl ⟨rfl, hF.1, ?_⟩
  have h2 : mg (rtF k r t) ≠ 0 := by simpa using hF.2
  have := mg_rk (rtF k r t)
  show 0 < rk (rtF k r t)
  omega

/-- Of the factor 1 the rate is 0. -/
theorem ones_y (k : Int) (t : Nat) (hk : okK k = true) (ht : F64 t) (ok : okT t = true) (h0 : 0 < rk t) : (yldA k oneW t).2 = 0 ∧ fin (yldA k oneW t).1 = true ∧ rk (yldA k oneW t).1 = 0 := by
  obtain ⟨k1, k6⟩ := (okK_iff k).1 hk
  obtain ⟨ft, t0, t1⟩ := (okT_iff t).1 ok
  have l0 := rk_flip0 (F64_fln oneW one_w.w) ln1
  have key : rk (rtY k oneW t) = 0 := by
    unfold rtY
    by_cases h1 : k = 1
    · rw [if_pos h1]
      exact div0l (F64_fsub _ _) ht (by decide +kernel) ft h0
    by_cases h6 : k = 6
    · rw [if_neg h1, if_pos h6]
      exact div0l (F64_flip _) ht l0 ft h0
    · rw [if_neg h1, if_neg h6]
      obtain ⟨m1, m2, m3, m4⟩ := rtM_row k (by omega) (by omega)
      obtain ⟨n1, n2⟩ := mt_fin k t (by omega) (by omega) ht ok
      have o1 := fmul_mono oneW (rtM k) t one_w.w m1 ht one_w.f m2 ft m3 t0
      have o2 : rk (fmul oneW t) = rk t := by rw [one_mul t ht (nn_fin t ft)]
      rw [exp0 (F64_fdiv _ _) (div0l (F64_flip _) (F64_fmul _ _) l0 n1 (by omega))]
      exact mul0r (F64_fsub _ _) m1 (by decide +kernel) m2
  have hb : (fin oneW && ltB 0 oneW && okT t && ltB 0 t) = true := by
    rw [ok, ltB_pos t ft h0]; decide +kernel
  unfold yldA
  rw [hk, if_neg (by decide), hb, if_neg (by decide), fin0 key, if_neg (by decide)]
  exact ⟨rfl, fin0 key, key⟩

end Go.Proofs.Ytpegicgahbambaa

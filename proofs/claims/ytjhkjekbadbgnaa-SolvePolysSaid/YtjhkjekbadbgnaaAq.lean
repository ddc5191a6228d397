/- Plain: sums, products, quotients with infinities and NaNs. No program. -/
import Derived.Test.YtjhkjekbadbgnaaAp
namespace Go.Proofs.Ytjhkjekbadbgnaa
set_option linter.unusedVariables false

theorem inf_mg {u : Nat} (h : inf u = true) : mg u = INF := by unfold inf at h; unfold INF; simpa using h
theorem read_infb (u : Nat) (h : F64 u) (hi : inf u = true) : dbl.read u = .infinity (ng u) := read_inf u h (inf_mg hi)
theorem word_inf (u : Nat) (h : F64 u) (hi : inf u = true) : dbl.write (.infinity (ng u)) = u := by
  have h1 := inf_mg hi
  have h2 := h.out
  show dbl.word (ng u) dbl.infRung = u
  rw [dbl_inf]
  unfold Ieee.Format.word
  rw [dbl_sw]
  unfold mg INF at h1
  unfold ng
  by_cases h3 : 9223372036854775808 ≤ u
  · rw [decide_eq_true h3, if_pos rfl]; omega
  · rw [decide_eq_false h3, if_neg (by decide)]; omega

theorem ways (u : Nat) : (nn u = true ∧ inf u = false ∧ fin u = false) ∨ (nn u = false ∧ inf u = true ∧ fin u = false) ∨ (nn u = false ∧ inf u = false ∧ fin u = true) := by
  unfold nn inf fin INF
  rcases Nat.lt_trichotomy (mg u) 9218868437227405312 with h | h | h
  · right; right; refine ⟨decide_eq_false (by omega), ?_, decide_eq_true h⟩; rw [beq_eq_false_iff_ne]; omega
  · right; left; refine ⟨decide_eq_false (by omega), ?_, decide_eq_false (by omega)⟩; rw [beq_iff_eq]; exact h
  · left; refine ⟨decide_eq_true h, ?_, decide_eq_false (by omega)⟩; rw [beq_eq_false_iff_ne]; omega

theorem fadd_nl (u v : Nat) (hu : F64 u) (h : nn u = true) : fadd u v = NaNc := by
  obtain ⟨s, t, r⟩ := read_nan u hu h
  unfold fadd Ieee.Format.add; rw [r, sum_nan_l]; rfl
theorem fadd_nr (u v : Nat) (hv : F64 v) (h : nn v = true) : fadd u v = NaNc := by
  obtain ⟨s, t, r⟩ := read_nan v hv h
  unfold fadd Ieee.Format.add; rw [r, sum_nan_r]; rfl
theorem fadd_ii (u v : Nat) (hu : F64 u) (hv : F64 v) (h : inf u = true) (h' : inf v = true) : fadd u v = if u = v then u else NaNc := by
  unfold fadd Ieee.Format.add
  rw [read_infb u hu h, read_infb v hv h']
  have e := word_inf u hu h
  have e' := word_inf v hv h'
  simp only [Ieee.Datum.sum]
  by_cases hs : ng u = ng v
  · rw [if_pos hs]
    have : u = v := by rw [← e, ← e', hs]
    rw [if_pos this]
    simp only [Option.map_some, Option.getD_some]
    exact e
  · rw [if_neg hs, if_neg (fun h => hs (by rw [h]))]
    rfl
theorem fadd_if (u v : Nat) (hu : F64 u) (hv : F64 v) (h : inf u = true) (h' : fin v = true) : fadd u v = u := by
  unfold fadd Ieee.Format.add
  rw [read_infb u hu h, read_fin v hv h']
  simp only [Ieee.Datum.sum, Option.map_some, Option.getD_some]
  exact word_inf u hu h
theorem fadd_fi (u v : Nat) (hu : F64 u) (hv : F64 v) (h : fin u = true) (h' : inf v = true) : fadd u v = v := by
  unfold fadd Ieee.Format.add
  rw [read_infb v hv h', read_fin u hu h]
  simp only [Ieee.Datum.sum, Option.map_some, Option.getD_some]
  exact word_inf v hv h'

/-- The real that stands for a float: its exponent. -/
def exr (u : Nat) : Int := if mnt u = 0 then 0 else exq u
def ngr (u : Nat) : Bool := ng u && !(mnt u == 0)

theorem sumD_l (s s' : Bool) (B : Nat) : sumD s 0 s' B = B := by unfold sumD; rw [if_pos (.inr (.inl rfl)), Nat.zero_add]
theorem sumS_l (s s' : Bool) (B : Nat) (h : B ≠ 0) : sumS s 0 s' B = s' := by
  unfold sumS; rw [if_pos (.inr (.inl rfl)), if_pos rfl, Nat.zero_add, show (B == 0) = false by rw [beq_eq_false_iff_ne]; exact h]; simp
theorem sumE_l (s s' : Bool) (B : Nat) (E : Int) : sumE s 0 s' B E = E := by unfold sumE; rw [if_pos (.inr (.inl rfl))]
theorem sumD_r (s s' : Bool) (A : Nat) : sumD s A s' 0 = A := by unfold sumD; rw [if_pos (.inr (.inr rfl)), Nat.add_zero]
theorem sumS_r (s s' : Bool) (A : Nat) (h : A ≠ 0) : sumS s A s' 0 = s := by
  unfold sumS; rw [if_pos (.inr (.inr rfl)), if_neg h, Nat.add_zero, show (A == 0) = false by rw [beq_eq_false_iff_ne]; exact h]; simp
theorem sumE_r (s s' : Bool) (A : Nat) (E : Int) : sumE s A s' 0 E = E := by unfold sumE; rw [if_pos (.inr (.inr rfl))]
theorem sumE_n (s s' : Bool) (A B : Nat) (E : Int) (h : sumD s A s' B ≠ 0) : sumE s A s' B E = E := by
  unfold sumE; unfold sumD at h
  by_cases hP : s = s' ∨ A = 0 ∨ B = 0
  · rw [if_pos hP]
  · rw [if_neg hP] at h ⊢
    by_cases h2 : A = B
    · rw [if_pos h2] at h; exact absurd rfl h
    · rw [if_neg h2]
theorem sumD_z (s s' : Bool) (A B : Nat) (h : sumD s A s' B = 0) (hA : A ≠ 0) (hB : B ≠ 0) : s ≠ s' := by
  intro hs
  unfold sumD at h
  rw [if_pos (.inl hs)] at h
  omega

theorem zero_word (u : Nat) (hu : F64 u) (h : mg u = 0) : u = if ng u then 9223372036854775808 else 0 := by
  have h2 := hu.out
  unfold mg at h
  unfold ng
  by_cases h3 : 9223372036854775808 ≤ u
  · rw [decide_eq_true h3, if_pos rfl]; omega
  · rw [decide_eq_false h3, if_neg (by decide)]; omega

theorem zz (u v : Nat) (m : mg u = 0) (z1 : u = if ng u then 9223372036854775808 else 0) (z2 : v = if ng v then 9223372036854775808 else 0) :
    (if (ng u && ng v) = true then 9223372036854775808 else 0) = if mg u = 0 ∧ u = v then u else 0 := by
  by_cases h : u = v
  · rw [if_pos (c := mg u = 0 ∧ u = v) ⟨m, h⟩]; subst h; rw [Bool.and_self]; exact z1.symm
  · rw [if_neg (c := mg u = 0 ∧ u = v) (fun hh => h hh.2)]
    have : (ng u && ng v) = false := by
      cases a1 : ng u
      · rfl
      · cases a2 : ng v
        · rfl
        · exfalso; rw [a1] at z1; rw [a2] at z2; exact h (z1.trans z2.symm)
    rw [this]; simp

/-- The sum by reals is the sum. -/
theorem fadd_ff (u v : Nat) (hu : F64 u) (hv : F64 v) (fu : fin u = true) (fv : fin v = true) :
    fadd u v =
      if sumD (ngr u) (lowN (mnt u) (exr u) (plE (mnt u) (exr u) (mnt v) (exr v))) (ngr v) (lowN (mnt v) (exr v) (plE (mnt u) (exr u) (mnt v) (exr v))) = 0
      then (if mg u = 0 ∧ u = v then u else 0)
      else nearM (sumS (ngr u) (lowN (mnt u) (exr u) (plE (mnt u) (exr u) (mnt v) (exr v))) (ngr v) (lowN (mnt v) (exr v) (plE (mnt u) (exr u) (mnt v) (exr v))))
        (sumD (ngr u) (lowN (mnt u) (exr u) (plE (mnt u) (exr u) (mnt v) (exr v))) (ngr v) (lowN (mnt v) (exr v) (plE (mnt u) (exr u) (mnt v) (exr v))))
        (sumE (ngr u) (lowN (mnt u) (exr u) (plE (mnt u) (exr u) (mnt v) (exr v))) (ngr v) (lowN (mnt v) (exr v) (plE (mnt u) (exr u) (mnt v) (exr v))) (plE (mnt u) (exr u) (mnt v) (exr v))) false := by
  rw [fadd_num u v hu hv fu fv]
  by_cases h1 : mnt u = 0
  · have eu := exq_zero u h1
    have n1 : ngr u = false := by unfold ngr; rw [h1]; simp
    have ev := exq_bd v fv
    have hmin : min (exq u) (exq v) = -1074 := by omega
    rw [hmin, n1, h1]
    have l1 : ∀ E, lowN 0 (exr u) E = 0 := fun E => by unfold lowN; rw [Nat.zero_mul]
    rw [l1, Nat.zero_mul, sumD_l, sumD_l]
    by_cases h2 : mnt v = 0
    · have l2 : ∀ E, lowN 0 (exr v) E = 0 := fun E => by unfold lowN; rw [Nat.zero_mul]
      rw [h2, l2, Nat.zero_mul, if_pos rfl, if_pos rfl]
      have z1 := zero_word u hu ((mnt_zero u).1 h1)
      have z2 := zero_word v hv ((mnt_zero v).1 h2)
      exact zz u v ((mnt_zero u).1 h1) z1 z2
    · have n2 : ngr v = ng v := by unfold ngr; rw [show (mnt v == 0) = false by rw [beq_eq_false_iff_ne]; exact h2]; simp
      have e2 : exr v = exq v := by unfold exr; rw [if_neg h2]
      have hE : plE 0 (exr u) (mnt v) (exr v) = exq v := by unfold plE; rw [if_pos rfl, e2]
      have hp := Nat.pow_pos (n := (exq v - -1074).toNat) (show 0 < 2 by decide)
      have hB : mnt v * 2 ^ (exq v - -1074).toNat ≠ 0 := Nat.mul_ne_zero h2 (by omega)
      have hl : lowN (mnt v) (exr v) (exq v) = mnt v := by unfold lowN; rw [e2, Int.sub_self]; simp
      rw [hE, hl, n2, if_neg hB, if_neg h2, sumS_l _ _ _ hB, sumS_l _ _ _ h2, sumE_l, nearM_nearest h2]
      have := nearest_scale (ng v) (mnt v) (exq v - -1074).toNat (exq v) h2
      rw [show exq v - ((exq v - -1074).toNat : Int) = -1074 by omega] at this
      exact this
  · have n1 : ngr u = ng u := by unfold ngr; rw [show (mnt u == 0) = false by rw [beq_eq_false_iff_ne]; exact h1]; simp
    have e1 : exr u = exq u := by unfold exr; rw [if_neg h1]
    by_cases h2 : mnt v = 0
    · have ev := exq_zero v h2
      have n2 : ngr v = false := by unfold ngr; rw [h2]; simp
      have eu := exq_bd u fu
      have hmin : min (exq u) (exq v) = -1074 := by omega
      have l2 : ∀ E, lowN 0 (exr v) E = 0 := fun E => by unfold lowN; rw [Nat.zero_mul]
      rw [hmin, n1, n2, h2, l2, Nat.zero_mul, sumD_r, sumD_r]
      have hE : plE (mnt u) (exr u) 0 (exr v) = exq u := by unfold plE; rw [if_neg h1, if_pos rfl, e1]
      have hp := Nat.pow_pos (n := (exq u - -1074).toNat) (show 0 < 2 by decide)
      have hB : mnt u * 2 ^ (exq u - -1074).toNat ≠ 0 := Nat.mul_ne_zero h1 (by omega)
      have hl : lowN (mnt u) (exr u) (exq u) = mnt u := by unfold lowN; rw [e1, Int.sub_self]; simp
      rw [hE, hl, if_neg hB, if_neg h1, sumS_r _ _ _ hB, sumS_r _ _ _ h1, sumE_r, nearM_nearest h1]
      have := nearest_scale (ng u) (mnt u) (exq u - -1074).toNat (exq u) h1
      rw [show exq u - ((exq u - -1074).toNat : Int) = -1074 by omega] at this
      exact this
    · have n2 : ngr v = ng v := by unfold ngr; rw [show (mnt v == 0) = false by rw [beq_eq_false_iff_ne]; exact h2]; simp
      have e2 : exr v = exq v := by unfold exr; rw [if_neg h2]
      have hE : plE (mnt u) (exr u) (mnt v) (exr v) = min (exq u) (exq v) := by unfold plE; rw [if_neg h1, if_neg h2, e1, e2]
      rw [hE, n1, n2, e1, e2]
      unfold lowN
      generalize hE' : min (exq u) (exq v) = E
      have hA : mnt u * 2 ^ (exq u - E).toNat ≠ 0 := Nat.mul_ne_zero h1 (by have := Nat.pow_pos (n := (exq u - E).toNat) (show 0 < 2 by decide); omega)
      have hB : mnt v * 2 ^ (exq v - E).toNat ≠ 0 := Nat.mul_ne_zero h2 (by have := Nat.pow_pos (n := (exq v - E).toNat) (show 0 < 2 by decide); omega)
      generalize mnt u * 2 ^ (exq u - E).toNat = A at *
      generalize mnt v * 2 ^ (exq v - E).toNat = B at *
      by_cases h3 : sumD (ng u) A (ng v) B = 0
      · rw [if_pos h3, if_pos h3]
        have h4 := sumD_z _ _ _ _ h3 hA hB
        rw [if_neg (c := mg u = 0 ∧ u = v) (fun h => h1 ((mnt_zero u).2 h.1))]
        cases a1 : ng u <;> cases a2 : ng v <;> rw [a1, a2] at h4 <;> first | exact absurd rfl h4 | rfl
      · rw [if_neg h3, if_neg h3, sumE_n _ _ _ _ _ h3, nearM_nearest h3]

end Go.Proofs.Ytjhkjekbadbgnaa

/- The walk of the reference's Div. -/
import Derived.Test.YtjhkjekbadbgnaaAy
namespace Go.Proofs.Ytjhkjekbadbgnaa
open Go.RowKit
set_option linter.unusedSimpArgs false
set_option linter.unusedVariables false

theorem mg_mg (u : Nat) : mg (mg u) = mg u := by
  have e : ∀ y, mg y = y % 9223372036854775808 := fun y => by unfold mg; rfl
  rw [e (mg u)]; exact Nat.mod_eq_of_lt (mg_lt u)
theorem F64_mg (u : Nat) : F64 (mg u) := ⟨by have := mg_lt u; omega⟩
theorem mnt_mg (u : Nat) : mnt (mg u) = mnt u := by unfold mnt; rw [mg_mg]
theorem exr_mg (u : Nat) : exr (mg u) = exr u := by unfold exr exq; rw [mnt_mg, mg_mg]

theorem F64_overN (s : Bool) (d : Nat) (e : Int) (d' : Nat) (e' : Int) : F64 (overN s d e d' e') := by
  unfold overN; split
  · exact ⟨by decide⟩
  · exact F64_nearM _ _ _ _

set_option maxHeartbeats 16000000 in
set_option maxRecDepth 100000 in
theorem rDiv_special (u v : Nat) (hu : F64 u) (hv : F64 v) (hs : ¬ (fin u = true ∧ fin v = true)) (w : World) :
    Calls Try.prog 72 #[.int .u64 u, .int .u64 v] w (URet (fdiv u v) w) := by
  have bx := sgw_bits u v hu hv
  have bl := sgw_le u v
  have HW1 := Hd.mk (fdiv_if u v hu hv)
  have HW2 := Hd.mk (fdiv_fi u v hu hv)
  generalize sgw u v = σ at *
  rcases ways u with ⟨n1, i1, f1⟩ | ⟨n1, i1, f1⟩ | ⟨n1, i1, f1⟩
  · have HR : Hd (NaNc = fdiv u v) := ⟨(fdiv_nl u v hu n1).symm⟩
    unfold NaNc at HR
    generalize fdiv u v = R at *
    clear hs f1 i1 HW1 HW2
    go_enter Try.func72, Try.ntmps72
    go_wp2_with fail
    refine (rIsNaN_any _ hu _).mono ?_
    rintro en w' ⟨rfl, rfl⟩
    go_wp2_with fail
    go_ret
    exact ⟨ret_int (by have := HR.out; omega), Below.refl _ _⟩
  all_goals rcases ways v with ⟨n2, i2, f2⟩ | ⟨n2, i2, f2⟩ | ⟨n2, i2, f2⟩
  case inr.inl.inl | inr.inr.inl =>
    have HR : Hd (NaNc = fdiv u v) := ⟨(fdiv_nr u v hv n2).symm⟩
    unfold NaNc at HR
    generalize fdiv u v = R at *
    clear hs f1 i1 f2 i2 HW1 HW2
    go_enter Try.func72, Try.ntmps72
    go_wp2_with fail
    refine (rIsNaN_any _ hu _).mono ?_
    rintro en w' ⟨rfl, rfl⟩
    go_wp2_with fail
    refine (rIsNaN_any _ hv _).mono ?_
    rintro en w' ⟨rfl, rfl⟩
    go_wp2_with fail
    go_ret
    exact ⟨ret_int (by have := HR.out; omega), Below.refl _ _⟩
  case inr.inl.inr.inl =>
    have HR : Hd (NaNc = fdiv u v) := ⟨(fdiv_ii u v hu hv i1 i2).symm⟩
    unfold NaNc at HR
    generalize fdiv u v = R at *
    clear hs f1 f2 HW1 HW2
    go_enter Try.func72, Try.ntmps72
    go_wp2_with fail
    refine (rIsNaN_any _ hu _).mono ?_
    rintro en w' ⟨rfl, rfl⟩
    go_wp2_with fail
    refine (rIsNaN_any _ hv _).mono ?_
    rintro en w' ⟨rfl, rfl⟩
    go_wp2_with fail
    refine (rIsInf_any _ hu _).mono ?_
    rintro en w' ⟨rfl, rfl⟩
    go_wp2_with fail
    refine (rIsInf_any _ hv _).mono ?_
    rintro en w' ⟨rfl, rfl⟩
    go_wp2_with fail
    go_ret
    exact ⟨ret_int (by have := HR.out; omega), Below.refl _ _⟩
  case inr.inl.inr.inr =>
    have HR : Hd (σ + 9218868437227405312 = fdiv u v) := ⟨(HW1.out i1 f2).symm⟩
    have z1 := inf_nz i1
    generalize fdiv u v = R at *
    clear hs f1 f2 HW1 HW2
    go_enter Try.func72, Try.ntmps72
    go_wp2_with fail
    refine (rIsNaN_any _ hu _).mono ?_
    rintro en w' ⟨rfl, rfl⟩
    go_wp2_with fail
    refine (rIsNaN_any _ hv _).mono ?_
    rintro en w' ⟨rfl, rfl⟩
    go_wp2_with fail
    refine (rIsInf_any _ hu _).mono ?_
    rintro en w' ⟨rfl, rfl⟩
    go_wp2_with fail
    refine (rIsInf_any _ hv _).mono ?_
    rintro en w' ⟨rfl, rfl⟩
    go_wp2_with fail
    refine (rSize_any _ hu _).mono ?_
    rintro en w' ⟨rfl, rfl⟩
    go_wp2_with fail
    refine (rIsInf_any _ hu _).mono ?_
    rintro en w' ⟨rfl, rfl⟩
    go_wp2_with fail
    go_ret
    exact ⟨ret_int (by have := HR.out; omega), Below.refl _ _⟩
  case inr.inr.inr.inl =>
    have HR : Hd (σ = fdiv u v) := ⟨(HW2.out f1 i2).symm⟩
    have z2 := inf_nz i2
    by_cases hz : mg u = 0
    · have z1 : ((mg u : Int) == 0) = true := by rw [hz]; rfl
      generalize fdiv u v = R at *
      clear hs f1 f2 HW1 HW2 hz
      go_enter Try.func72, Try.ntmps72
      go_wp2_with fail
      refine (rIsNaN_any _ hu _).mono ?_
      rintro en w' ⟨rfl, rfl⟩
      go_wp2_with fail
      refine (rIsNaN_any _ hv _).mono ?_
      rintro en w' ⟨rfl, rfl⟩
      go_wp2_with fail
      refine (rIsInf_any _ hu _).mono ?_
      rintro en w' ⟨rfl, rfl⟩
      go_wp2_with fail
      refine (rSize_any _ hu _).mono ?_
      rintro en w' ⟨rfl, rfl⟩
      go_wp2_with fail
      refine (rSize_any _ hv _).mono ?_
      rintro en w' ⟨rfl, rfl⟩
      go_wp2_with fail
      refine (rIsInf_any _ hu _).mono ?_
      rintro en w' ⟨rfl, rfl⟩
      go_wp2_with fail
      refine (rSize_any _ hv _).mono ?_
      rintro en w' ⟨rfl, rfl⟩
      go_wp2_with fail
      refine (rIsInf_any _ hv _).mono ?_
      rintro en w' ⟨rfl, rfl⟩
      go_wp2_with fail
      go_ret
      exact ⟨ret_int (by have := HR.out; omega), Below.refl _ _⟩
    · have z1 : ((mg u : Int) == 0) = false := by rw [beq_eq_false_iff_ne]; omega
      generalize fdiv u v = R at *
      clear hs f1 f2 HW1 HW2 hz
      go_enter Try.func72, Try.ntmps72
      go_wp2_with fail
      refine (rIsNaN_any _ hu _).mono ?_
      rintro en w' ⟨rfl, rfl⟩
      go_wp2_with fail
      refine (rIsNaN_any _ hv _).mono ?_
      rintro en w' ⟨rfl, rfl⟩
      go_wp2_with fail
      refine (rIsInf_any _ hu _).mono ?_
      rintro en w' ⟨rfl, rfl⟩
      go_wp2_with fail
      refine (rSize_any _ hu _).mono ?_
      rintro en w' ⟨rfl, rfl⟩
      go_wp2_with fail
      refine (rIsInf_any _ hu _).mono ?_
      rintro en w' ⟨rfl, rfl⟩
      go_wp2_with fail
      refine (rSize_any _ hv _).mono ?_
      rintro en w' ⟨rfl, rfl⟩
      go_wp2_with fail
      refine (rIsInf_any _ hv _).mono ?_
      rintro en w' ⟨rfl, rfl⟩
      go_wp2_with fail
      go_ret
      exact ⟨ret_int (by have := HR.out; omega), Below.refl _ _⟩
  case inr.inr.inr.inr => exact absurd ⟨f1, f2⟩ hs

set_option maxHeartbeats 16000000 in
set_option maxRecDepth 100000 in
theorem rDiv_zero (u v : Nat) (hu : F64 u) (hv : F64 v) (f1 : fin u = true) (f2 : fin v = true) (hz : mg u = 0 ∨ mg v = 0) (w : World) :
    Calls Try.prog 72 #[.int .u64 u, .int .u64 v] w (URet (fdiv u v) w) := by
  have bx := sgw_bits u v hu hv
  have bl := sgw_le u v
  obtain ⟨n1, i1⟩ := fin_ni f1
  obtain ⟨n2, i2⟩ := fin_ni f2
  by_cases h2 : mg v = 0
  · have z2 : ((mg v : Int) == 0) = true := by rw [h2]; rfl
    have HF := fdiv_f0 u v hu hv f1 f2 h2
    by_cases h1 : mg u = 0
    · have z1 : ((mg u : Int) == 0) = true := by rw [h1]; rfl
      have HR : Hd (NaNc = fdiv u v) := ⟨by rw [HF, if_pos h1]⟩
      unfold NaNc at HR
      generalize fdiv u v = R at *
      generalize sgw u v = σ at *
      clear HF h1 h2 hz f1 f2
      go_enter Try.func72, Try.ntmps72
      go_wp2_with fail
      refine (rIsNaN_any _ hu _).mono ?_
      rintro en w' ⟨rfl, rfl⟩
      go_wp2_with fail
      refine (rIsNaN_any _ hv _).mono ?_
      rintro en w' ⟨rfl, rfl⟩
      go_wp2_with fail
      refine (rIsInf_any _ hu _).mono ?_
      rintro en w' ⟨rfl, rfl⟩
      go_wp2_with fail
      refine (rSize_any _ hu _).mono ?_
      rintro en w' ⟨rfl, rfl⟩
      go_wp2_with fail
      refine (rSize_any _ hv _).mono ?_
      rintro en w' ⟨rfl, rfl⟩
      go_wp2_with fail
      go_ret
      exact ⟨ret_int (by have := HR.out; omega), Below.refl _ _⟩
    · have z1 : ((mg u : Int) == 0) = false := by rw [beq_eq_false_iff_ne]; omega
      have HR : Hd (sgw u v + 9218868437227405312 = fdiv u v) := ⟨by rw [HF, if_neg h1]⟩
      generalize fdiv u v = R at *
      generalize sgw u v = σ at *
      clear HF h1 h2 hz f1 f2
      go_enter Try.func72, Try.ntmps72
      go_wp2_with fail
      refine (rIsNaN_any _ hu _).mono ?_
      rintro en w' ⟨rfl, rfl⟩
      go_wp2_with fail
      refine (rIsNaN_any _ hv _).mono ?_
      rintro en w' ⟨rfl, rfl⟩
      go_wp2_with fail
      refine (rIsInf_any _ hu _).mono ?_
      rintro en w' ⟨rfl, rfl⟩
      go_wp2_with fail
      refine (rSize_any _ hu _).mono ?_
      rintro en w' ⟨rfl, rfl⟩
      go_wp2_with fail
      refine (rIsInf_any _ hu _).mono ?_
      rintro en w' ⟨rfl, rfl⟩
      go_wp2_with fail
      refine (rSize_any _ hv _).mono ?_
      rintro en w' ⟨rfl, rfl⟩
      go_wp2_with fail
      go_ret
      exact ⟨ret_int (by have := HR.out; omega), Below.refl _ _⟩
  · have h1 : mg u = 0 := by omega
    have z1 : ((mg u : Int) == 0) = true := by rw [h1]; rfl
    have z2 : ((mg v : Int) == 0) = false := by rw [beq_eq_false_iff_ne]; omega
    have HR : Hd (sgw u v = fdiv u v) := ⟨by
      rw [fdiv_ff u v hu hv f1 f2 h2 false]
      unfold overN
      rw [if_pos ((mnt_zero u).2 h1), mg_0]; rfl⟩
    generalize fdiv u v = R at *
    generalize sgw u v = σ at *
    clear h1 h2 hz f1 f2
    go_enter Try.func72, Try.ntmps72
    go_wp2_with fail
    refine (rIsNaN_any _ hu _).mono ?_
    rintro en w' ⟨rfl, rfl⟩
    go_wp2_with fail
    refine (rIsNaN_any _ hv _).mono ?_
    rintro en w' ⟨rfl, rfl⟩
    go_wp2_with fail
    refine (rIsInf_any _ hu _).mono ?_
    rintro en w' ⟨rfl, rfl⟩
    go_wp2_with fail
    refine (rSize_any _ hu _).mono ?_
    rintro en w' ⟨rfl, rfl⟩
    go_wp2_with fail
    refine (rSize_any _ hv _).mono ?_
    rintro en w' ⟨rfl, rfl⟩
    go_wp2_with fail
    refine (rIsInf_any _ hu _).mono ?_
    rintro en w' ⟨rfl, rfl⟩
    go_wp2_with fail
    refine (rSize_any _ hv _).mono ?_
    rintro en w' ⟨rfl, rfl⟩
    go_wp2_with fail
    refine (rIsInf_any _ hv _).mono ?_
    rintro en w' ⟨rfl, rfl⟩
    go_wp2_with fail
    refine (rSize_any _ hu _).mono ?_
    rintro en w' ⟨rfl, rfl⟩
    go_wp2_with fail
    go_ret
    exact ⟨ret_int (by have := HR.out; omega), Below.refl _ _⟩

set_option maxHeartbeats 16000000 in
set_option maxRecDepth 100000 in
theorem rDiv_fin (u v : Nat) (hu : F64 u) (hv : F64 v) (f1 : fin u = true) (f2 : fin v = true) (h1 : mg u ≠ 0) (h2 : mg v ≠ 0) (w : World) :
    Calls Try.prog 72 #[.int .u64 u, .int .u64 v] w (URet (fdiv u v) w) := by
  have bx := sgw_bits u v hu hv
  have bl := sgw_le u v
  obtain ⟨n1, i1⟩ := fin_ni f1
  obtain ⟨n2, i2⟩ := fin_ni f2
  have z1 : ((mg u : Int) == 0) = false := by rw [beq_eq_false_iff_ne]; omega
  have z2 : ((mg v : Int) == 0) = false := by rw [beq_eq_false_iff_ne]; omega
  have HF := Hd.mk (fdiv_ff u v hu hv f1 f2 h2 (ngr (mg u)))
  have b1 := exr_bd u f1
  have b2 := exr_bd v f2
  have m1 := nd_mnt u
  have m2 := nd_mnt v
  have hn : mnt v ≠ 0 := fun h => h2 ((mnt_zero v).1 h)
  have HO := Hd.mk (of_real (mg u) (F64_mg u))
  have HO' := Hd.mk (of_real (mg v) (F64_mg v))
  rw [mnt_mg, exr_mg] at HO HO'
  have HP : Hd (∀ w a c a' c', Dgs w a (mnt u) → Dgs w a' (mnt v) → Calls Try.prog 97 #[.agg #[.bool (ngr (mg u)), .slice a (nd (mnt u)) c, .int .i64 (exr u)], .agg #[.bool (ngr (mg v)), .slice a' (nd (mnt v)) c', .int .i64 (exr v)]] w
      (URet (overN (ngr (mg u)) (mnt u) (exr u) (mnt v) (exr v)) w)) :=
    ⟨fun w a c a' c' h h' => nearOver_any (ngr (mg u)) a (mnt u) c (exr u) (ngr (mg v)) a' (mnt v) c' (exr v) w h h' (by omega) (by omega) hn (by omega) (by omega)⟩
  have hNF := F64_overN (ngr (mg u)) (mnt u) (exr u) (mnt v) (exr v)
  generalize overN (ngr (mg u)) (mnt u) (exr u) (mnt v) (exr v) = R1 at *
  have HSz := Hd.mk (rSize_any R1 hNF)
  have hm := mg_lt R1
  generalize mg R1 = m at *
  generalize sgw u v = σ at *
  have HR : Hd (σ + m = fdiv u v) := ⟨HF.out.symm⟩
  clear HF b1 b2 m1 m2 f1 f2 h1 h2 hn
  generalize fdiv u v = R at *
  generalize ngr (mg u) = s at *
  generalize ngr (mg v) = s' at *
  generalize exr u = e at *
  generalize exr v = e' at *
  generalize mnt u = A at *
  generalize mnt v = B at *
  go_enter Try.func72, Try.ntmps72
  go_wp2_with fail
  refine (rIsNaN_any _ hu _).mono ?_
  rintro en w' ⟨rfl, rfl⟩
  go_wp2_with fail
  refine (rIsNaN_any _ hv _).mono ?_
  rintro en w' ⟨rfl, rfl⟩
  go_wp2_with fail
  refine (rIsInf_any _ hu _).mono ?_
  rintro en w' ⟨rfl, rfl⟩
  go_wp2_with fail
  refine (rSize_any _ hu _).mono ?_
  rintro en w' ⟨rfl, rfl⟩
  go_wp2_with fail
  refine (rIsInf_any _ hu _).mono ?_
  rintro en w' ⟨rfl, rfl⟩
  go_wp2_with fail
  refine (rSize_any _ hv _).mono ?_
  rintro en w' ⟨rfl, rfl⟩
  go_wp2_with fail
  refine (rIsInf_any _ hv _).mono ?_
  rintro en w' ⟨rfl, rfl⟩
  go_wp2_with fail
  refine (rSize_any _ hu _).mono ?_
  rintro en w' ⟨rfl, rfl⟩
  go_wp2_with fail
  refine (rSize_any _ hu _).mono ?_
  rintro en w' ⟨rfl, rfl⟩
  go_wp2_with fail
  refine (HO.out _).mono ?_; rintro en w1 ⟨a1, c1, rfl, hd1, hb1⟩
  have D1 := Hd.mk hd1
  have B1 := Hd.mk hb1
  clear hd1 hb1
  go_wp2_with fail
  refine (rSize_any _ hv _).mono ?_
  rintro en w' ⟨rfl, rfl⟩
  go_wp2_with fail
  refine (HO'.out _).mono ?_; rintro en w2 ⟨a2, c2, rfl, hd2, hb2⟩
  have D2 := Hd.mk hd2
  have B2 := Hd.mk (B1.out.trans (hb2.mono B1.out.size))
  have D1' := Hd.mk (D1.out.below hb2)
  clear hd2 hb2
  go_wp2_with fail
  refine (HP.out _ _ _ _ _ D1'.out D2.out).mono ?_; rintro en w3 ⟨rfl, hb3⟩
  have B3 := Hd.mk (B2.out.trans (hb3.mono B2.out.size))
  clear hb3
  generalize nd A = nA at *
  generalize nd B = nB at *
  go_wp2_with fail
  refine (HSz.out _).mono ?_; rintro en w6 ⟨rfl, rfl⟩
  go_wp2_with fail
  go_ret
  exact ⟨ret_int (by have := HR.out; omega), B3.out⟩

/-- Div is the quotient. -/
theorem rDiv_any (u v : Nat) (hu : F64 u) (hv : F64 v) (w : World) :
    Calls Try.prog 72 #[.int .u64 u, .int .u64 v] w (URet (fdiv u v) w) := by
  by_cases h : fin u = true ∧ fin v = true
  · by_cases h1 : mg u = 0
    · exact rDiv_zero u v hu hv h.1 h.2 (.inl h1) w
    · by_cases h2 : mg v = 0
      · exact rDiv_zero u v hu hv h.1 h.2 (.inr h2) w
      · exact rDiv_fin u v hu hv h.1 h.2 h1 h2 w
  · exact rDiv_special u v hu hv h w

end Go.Proofs.Ytjhkjekbadbgnaa

/- The walk of the reference's Mul. -/
import Derived.Test.YtjhkjekbadbgnaaAx
namespace Go.Proofs.Ytjhkjekbadbgnaa
open Go.RowKit
set_option linter.unusedSimpArgs false
set_option linter.unusedVariables false

theorem sgw_le (u v : Nat) : sgw u v ≤ 9223372036854775808 := by unfold sgw; split <;> omega


theorem fin_ni {u : Nat} (h : fin u = true) : nn u = false ∧ inf u = false := by
  rcases ways u with ⟨_, _, f⟩ | ⟨_, _, f⟩ | ⟨a, b, _⟩
  · rw [h] at f; cases f
  · rw [h] at f; cases f
  · exact ⟨a, b⟩
theorem inf_nz {u : Nat} (h : inf u = true) : ((mg u : Int) == 0) = false := by
  have := inf_mg h
  unfold INF at this
  rw [beq_eq_false_iff_ne]; omega

set_option maxHeartbeats 16000000 in
set_option maxRecDepth 100000 in
theorem rMul_special (u v : Nat) (hu : F64 u) (hv : F64 v) (hs : ¬ (fin u = true ∧ fin v = true)) (w : World) :
    Calls Try.prog 60 #[.int .u64 u, .int .u64 v] w (URet (fmul u v) w) := by
  have bx := sgw_bits u v hu hv
  have bl := sgw_le u v
  have HW := Hd.mk (fmul_ii u v hu hv)
  have HW1 := Hd.mk (fmul_if u v hu hv)
  have HW2 := Hd.mk (fmul_fi u v hu hv)
  generalize sgw u v = σ at *
  rcases ways u with ⟨n1, i1, f1⟩ | ⟨n1, i1, f1⟩ | ⟨n1, i1, f1⟩
  · have HR : Hd (NaNc = fmul u v) := ⟨(fmul_nl u v hu n1).symm⟩
    unfold NaNc at HR
    generalize fmul u v = R at *
    clear hs f1 i1 HW HW1 HW2
    go_enter Try.func60, Try.ntmps60
    go_wp2_with fail
    refine (rIsNaN_any _ hu _).mono ?_
    rintro en w' ⟨rfl, rfl⟩
    go_wp2_with fail
    go_ret
    exact ⟨ret_int (by have := HR.out; omega), Below.refl _ _⟩
  all_goals rcases ways v with ⟨n2, i2, f2⟩ | ⟨n2, i2, f2⟩ | ⟨n2, i2, f2⟩
  case inr.inl.inl | inr.inr.inl =>
    have HR : Hd (NaNc = fmul u v) := ⟨(fmul_nr u v hv n2).symm⟩
    unfold NaNc at HR
    generalize fmul u v = R at *
    clear hs f1 i1 f2 i2 HW HW1 HW2
    go_enter Try.func60, Try.ntmps60
    go_wp2_with fail
    refine (rIsNaN_any _ hu _).mono ?_
    rintro en w' ⟨rfl, rfl⟩
    go_wp2_with fail
    refine (rIsNaN_any _ hv _).mono ?_
    rintro en w' ⟨rfl, rfl⟩
    go_wp2_with fail
    go_ret
    exact ⟨ret_int (by have := HR.out; omega), Below.refl _ _⟩
  case inr.inl.inr.inl =>
    have HR : Hd (σ + 9218868437227405312 = fmul u v) := ⟨(HW.out i1 i2).symm⟩
    have z1 := inf_nz i1
    have z2 := inf_nz i2
    generalize fmul u v = R at *
    clear hs f1 f2 HW HW1 HW2
    go_enter Try.func60, Try.ntmps60
    go_wp2_with fail
    refine (rIsNaN_any _ hu _).mono ?_
    rintro en w' ⟨rfl, rfl⟩
    go_wp2_with fail
    refine (rIsNaN_any _ hv _).mono ?_
    rintro en w' ⟨rfl, rfl⟩
    go_wp2_with fail
    refine (rIsInf_any _ hu _).mono ?_
    rintro en w' ⟨rfl, rfl⟩
    go_wp2_with fail
    refine (rSize_any _ hv _).mono ?_
    rintro en w' ⟨rfl, rfl⟩
    go_wp2_with fail
    refine (rIsInf_any _ hv _).mono ?_
    rintro en w' ⟨rfl, rfl⟩
    go_wp2_with fail
    refine (rSize_any _ hu _).mono ?_
    rintro en w' ⟨rfl, rfl⟩
    go_wp2_with fail
    refine (rIsInf_any _ hu _).mono ?_
    rintro en w' ⟨rfl, rfl⟩
    go_wp2_with fail
    go_ret
    exact ⟨ret_int (by have := HR.out; omega), Below.refl _ _⟩
  case inr.inl.inr.inr =>
    have hw := HW1.out i1 f2
    by_cases hz : mg v = 0
    · have HR : Hd (NaNc = fmul u v) := ⟨by rw [hw, if_pos hz]⟩
      unfold NaNc at HR
      have z2 : ((mg v : Int) == 0) = true := by rw [hz]; rfl
      generalize fmul u v = R at *
      clear hs f1 f2 HW HW1 HW2 hz hw
      go_enter Try.func60, Try.ntmps60
      go_wp2_with fail
      refine (rIsNaN_any _ hu _).mono ?_
      rintro en w' ⟨rfl, rfl⟩
      go_wp2_with fail
      refine (rIsNaN_any _ hv _).mono ?_
      rintro en w' ⟨rfl, rfl⟩
      go_wp2_with fail
      refine (rIsInf_any _ hu _).mono ?_
      rintro en w' ⟨rfl, rfl⟩
      go_wp2_with fail
      refine (rSize_any _ hv _).mono ?_
      rintro en w' ⟨rfl, rfl⟩
      go_wp2_with fail
      go_ret
      exact ⟨ret_int (by have := HR.out; omega), Below.refl _ _⟩
    · have HR : Hd (σ + 9218868437227405312 = fmul u v) := ⟨by rw [hw, if_neg hz]⟩
      have z2 : ((mg v : Int) == 0) = false := by rw [beq_eq_false_iff_ne]; omega
      generalize fmul u v = R at *
      clear hs f1 f2 HW HW1 HW2 hz hw
      go_enter Try.func60, Try.ntmps60
      go_wp2_with fail
      refine (rIsNaN_any _ hu _).mono ?_
      rintro en w' ⟨rfl, rfl⟩
      go_wp2_with fail
      refine (rIsNaN_any _ hv _).mono ?_
      rintro en w' ⟨rfl, rfl⟩
      go_wp2_with fail
      refine (rIsInf_any _ hu _).mono ?_
      rintro en w' ⟨rfl, rfl⟩
      go_wp2_with fail
      refine (rSize_any _ hv _).mono ?_
      rintro en w' ⟨rfl, rfl⟩
      go_wp2_with fail
      refine (rIsInf_any _ hv _).mono ?_
      rintro en w' ⟨rfl, rfl⟩
      go_wp2_with fail
      refine (rIsInf_any _ hu _).mono ?_
      rintro en w' ⟨rfl, rfl⟩
      go_wp2_with fail
      go_ret
      exact ⟨ret_int (by have := HR.out; omega), Below.refl _ _⟩
  case inr.inr.inr.inl =>
    have hw := HW2.out f1 i2
    by_cases hz : mg u = 0
    · have HR : Hd (NaNc = fmul u v) := ⟨by rw [hw, if_pos hz]⟩
      unfold NaNc at HR
      have z2 : ((mg u : Int) == 0) = true := by rw [hz]; rfl
      generalize fmul u v = R at *
      clear hs f1 f2 HW HW1 HW2 hz hw
      go_enter Try.func60, Try.ntmps60
      go_wp2_with fail
      refine (rIsNaN_any _ hu _).mono ?_
      rintro en w' ⟨rfl, rfl⟩
      go_wp2_with fail
      refine (rIsNaN_any _ hv _).mono ?_
      rintro en w' ⟨rfl, rfl⟩
      go_wp2_with fail
      refine (rIsInf_any _ hu _).mono ?_
      rintro en w' ⟨rfl, rfl⟩
      go_wp2_with fail
      refine (rIsInf_any _ hv _).mono ?_
      rintro en w' ⟨rfl, rfl⟩
      go_wp2_with fail
      refine (rSize_any _ hu _).mono ?_
      rintro en w' ⟨rfl, rfl⟩
      go_wp2_with fail
      go_ret
      exact ⟨ret_int (by have := HR.out; omega), Below.refl _ _⟩
    · have HR : Hd (σ + 9218868437227405312 = fmul u v) := ⟨by rw [hw, if_neg hz]⟩
      have z2 : ((mg u : Int) == 0) = false := by rw [beq_eq_false_iff_ne]; omega
      generalize fmul u v = R at *
      clear hs f1 f2 HW HW1 HW2 hz hw
      go_enter Try.func60, Try.ntmps60
      go_wp2_with fail
      refine (rIsNaN_any _ hu _).mono ?_
      rintro en w' ⟨rfl, rfl⟩
      go_wp2_with fail
      refine (rIsNaN_any _ hv _).mono ?_
      rintro en w' ⟨rfl, rfl⟩
      go_wp2_with fail
      refine (rIsInf_any _ hu _).mono ?_
      rintro en w' ⟨rfl, rfl⟩
      go_wp2_with fail
      refine (rIsInf_any _ hv _).mono ?_
      rintro en w' ⟨rfl, rfl⟩
      go_wp2_with fail
      refine (rSize_any _ hu _).mono ?_
      rintro en w' ⟨rfl, rfl⟩
      go_wp2_with fail
      refine (rIsInf_any _ hu _).mono ?_
      rintro en w' ⟨rfl, rfl⟩
      go_wp2_with fail
      refine (rIsInf_any _ hv _).mono ?_
      rintro en w' ⟨rfl, rfl⟩
      go_wp2_with fail
      go_ret
      exact ⟨ret_int (by have := HR.out; omega), Below.refl _ _⟩
  case inr.inr.inr.inr => exact absurd ⟨f1, f2⟩ hs

theorem F64_nearM (s : Bool) (d : Nat) (e : Int) (more : Bool) : F64 (nearM s d e more) := by
  refine ⟨?_⟩
  unfold nearM madeN
  split
  · decide
  · split <;> omega

set_option maxHeartbeats 16000000 in
set_option maxRecDepth 100000 in
theorem rMul_fin (u v : Nat) (hu : F64 u) (hv : F64 v) (f1 : fin u = true) (f2 : fin v = true) (w : World) :
    Calls Try.prog 60 #[.int .u64 u, .int .u64 v] w (URet (fmul u v) w) := by
  have bx := sgw_bits u v hu hv
  have bl := sgw_le u v
  obtain ⟨n1, i1⟩ := fin_ni f1
  obtain ⟨n2, i2⟩ := fin_ni f2
  have HF := Hd.mk (fmul_ff u v hu hv f1 f2 ((ngr u != ngr v) && !(mnt u * mnt v == 0)))
  have b1 := exr_bd u f1
  have b2 := exr_bd v f2
  have m1 := nd_mnt u
  have m2 := nd_mnt v
  have HO := Hd.mk (of_real u hu)
  have HO' := Hd.mk (of_real v hv)
  have HP : Hd (∀ w a c a' c', Dgs w a (mnt u) → Dgs w a' (mnt v) → Calls Try.prog 90 #[.agg #[.bool (ngr u), .slice a (nd (mnt u)) c, .int .i64 (exr u)], .agg #[.bool (ngr v), .slice a' (nd (mnt v)) c', .int .i64 (exr v)]] w
      (NRet ((ngr u != ngr v) && !(mnt u * mnt v == 0)) (mnt u * mnt v) (if mnt u * mnt v = 0 then 0 else exr u + exr v) w)) :=
    ⟨fun w a c a' c' h h' => times_any (ngr u) a (mnt u) c (exr u) (ngr v) a' (mnt v) c' (exr v) w h h' (by omega) (by omega) (by omega) (by omega)⟩
  have nD : nd (mnt u * mnt v) ≤ 4 := by
    refine nd_le ?_
    have h1 := mnt_lt u
    have h2 := mnt_lt v
    have : mnt u * mnt v ≤ 9007199254740992 * 9007199254740992 := Nat.mul_le_mul (by omega) (by omega)
    exact Nat.lt_of_le_of_lt this (by decide)
  have hX : -3000 ≤ (if mnt u * mnt v = 0 then 0 else exr u + exr v) ∧ (if mnt u * mnt v = 0 then 0 else exr u + exr v) ≤ 3000 := by split <;> omega
  generalize (if mnt u * mnt v = 0 then 0 else exr u + exr v) = X at *
  generalize ((ngr u != ngr v) && !(mnt u * mnt v == 0)) = S at *
  generalize mnt u * mnt v = D at *
  have HN : Hd (∀ w a c, Dgs w a D → Calls Try.prog 64 #[.agg #[.bool S, .slice a (nd D) c, .int .i64 X]] w (URet (nearM S D X false) w)) := ⟨fun w a c h => near_any S a D c X w h (by omega) (by omega)⟩
  have hNF := F64_nearM S D X false
  generalize nearM S D X false = R1 at *
  have HSz := Hd.mk (rSize_any R1 hNF)
  have hm := mg_lt R1
  generalize mg R1 = m at *
  generalize sgw u v = σ at *
  have HR : Hd (σ + m = fmul u v) := ⟨HF.out.symm⟩
  clear HF b1 b2 m1 m2 f1 f2
  generalize fmul u v = R at *
  generalize ngr u = s at *
  generalize ngr v = s' at *
  generalize exr u = e at *
  generalize exr v = e' at *
  generalize mnt u = A at *
  generalize mnt v = B at *
  go_enter Try.func60, Try.ntmps60
  go_wp2_with fail
  refine (rIsNaN_any _ hu _).mono ?_
  rintro en w' ⟨rfl, rfl⟩
  go_wp2_with fail
  refine (rIsNaN_any _ hv _).mono ?_
  rintro en w' ⟨rfl, rfl⟩
  go_wp2_with fail
  refine (rIsInf_any _ hu _).mono ?_
  rintro en w' ⟨rfl, rfl⟩
  go_wp2_with fail
  refine (rIsInf_any _ hv _).mono ?_
  rintro en w' ⟨rfl, rfl⟩
  go_wp2_with fail
  refine (rIsInf_any _ hu _).mono ?_
  rintro en w' ⟨rfl, rfl⟩
  go_wp2_with fail
  refine (rIsInf_any _ hv _).mono ?_
  rintro en w' ⟨rfl, rfl⟩
  go_wp2_with fail
  refine (HO.out _).mono ?_; rintro en w1 ⟨a1, c1, rfl, hd1, hb1⟩
  have D1 := Hd.mk hd1
  have B1 := Hd.mk hb1
  clear hd1 hb1
  go_wp2_with fail
  refine (HO'.out _).mono ?_; rintro en w2 ⟨a2, c2, rfl, hd2, hb2⟩
  have D2 := Hd.mk hd2
  have B2 := Hd.mk (B1.out.trans (hb2.mono B1.out.size))
  have D1' := Hd.mk (D1.out.below hb2)
  clear hd2 hb2
  go_wp2_with fail
  refine (HP.out _ _ _ _ _ D1'.out D2.out).mono ?_; rintro en w3 ⟨a3, c3, rfl, hd3, hb3⟩
  have D3 := Hd.mk hd3
  have B3 := Hd.mk (B2.out.trans (hb3.mono B2.out.size))
  clear hd3 hb3
  generalize nd A = nA at *
  generalize nd B = nB at *
  go_wp2_with fail
  refine (HN.out _ _ _ D3.out).mono ?_; rintro en w5 ⟨rfl, hb5⟩
  have B5 := Hd.mk (B3.out.trans (hb5.mono B3.out.size))
  clear hb5
  go_wp2_with fail
  refine (HSz.out _).mono ?_; rintro en w6 ⟨rfl, rfl⟩
  go_wp2_with fail
  go_ret
  exact ⟨ret_int (by have := HR.out; omega), B5.out⟩

/-- Mul is the product. -/
theorem rMul_any (u v : Nat) (hu : F64 u) (hv : F64 v) (w : World) :
    Calls Try.prog 60 #[.int .u64 u, .int .u64 v] w (URet (fmul u v) w) := by
  by_cases h : fin u = true ∧ fin v = true
  · exact rMul_fin u v hu hv h.1 h.2 w
  · exact rMul_special u v hu hv h w

end Go.Proofs.Ytjhkjekbadbgnaa

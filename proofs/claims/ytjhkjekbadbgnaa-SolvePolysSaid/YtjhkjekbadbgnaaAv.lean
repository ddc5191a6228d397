/- The walk of the reference's Add. -/
import Derived.Test.YtjhkjekbadbgnaaAu
import Derived.Test.YtjhkjekbadbgnaaIs
namespace Go.Proofs.Ytjhkjekbadbgnaa
open Go.RowKit
set_option linter.unusedSimpArgs false
set_option linter.unusedVariables false

theorem nd_mnt (u : Nat) : nd (mnt u) ≤ 2 := nd_le (by rw [BB_pow]; exact Nat.lt_trans (mnt_lt u) (by decide))
theorem exr_bd (u : Nat) (h : fin u = true) : -1074 ≤ exr u ∧ exr u ≤ 971 := by
  have := exq_bd u h
  unfold exr; split <;> omega
theorem sumD_nd (s s' : Bool) (A B : Nat) (hA : nd A ≤ 100) (hB : nd B ≤ 100) : nd (sumD s A s' B) ≤ 101 := by
  have h1 : A < BB ^ 100 := Nat.lt_of_lt_of_le (lt_nd A) (Nat.pow_le_pow_right (by decide) hA)
  have h2 : B < BB ^ 100 := Nat.lt_of_lt_of_le (lt_nd B) (Nat.pow_le_pow_right (by decide) hB)
  refine nd_le ?_
  have h3 : sumD s A s' B ≤ A + B := by unfold sumD; split <;> (try split) <;> (try split) <;> omega
  rw [Nat.pow_succ, show BB ^ 100 * BB = BB ^ 100 * 4294967296 from rfl]
  generalize BB ^ 100 = Z at *
  omega
theorem plE_bd {d d' : Nat} {e e' : Int} (h : -1074 ≤ e ∧ e ≤ 971) (h' : -1074 ≤ e' ∧ e' ≤ 971) : -1074 ≤ plE d e d' e' ∧ plE d e d' e' ≤ 971 := by
  unfold plE; split; omega; split; omega; omega


set_option maxHeartbeats 16000000 in
set_option maxRecDepth 100000 in
theorem rAdd_special (u v : Nat) (hu : F64 u) (hv : F64 v) (hs : ¬ (fin u = true ∧ fin v = true)) (w : World) :
    Calls Try.prog 59 #[.int .u64 u, .int .u64 v] w (URet (fadd u v) w) := by
  rcases ways u with ⟨n1, i1, f1⟩ | ⟨n1, i1, f1⟩ | ⟨n1, i1, f1⟩
  · have HR : Hd (NaNc = fadd u v) := ⟨(fadd_nl u v hu n1).symm⟩
    unfold NaNc at HR
    generalize fadd u v = R at *
    clear hs f1 i1
    go_enter Try.func59, Try.ntmps59
    go_wp2_with fail
    refine (rIsNaN_any _ hu _).mono ?_
    rintro en w' ⟨rfl, rfl⟩
    go_wp2_with fail
    go_ret
    exact ⟨ret_int (by have := HR.out; omega), Below.refl _ _⟩
  all_goals rcases ways v with ⟨n2, i2, f2⟩ | ⟨n2, i2, f2⟩ | ⟨n2, i2, f2⟩
  case inr.inl.inl | inr.inr.inl =>
    have HR : Hd (NaNc = fadd u v) := ⟨(fadd_nr u v hv n2).symm⟩
    unfold NaNc at HR
    generalize fadd u v = R at *
    clear hs f1 i1 f2 i2
    go_enter Try.func59, Try.ntmps59
    go_wp2_with fail
    refine (rIsNaN_any _ hu _).mono ?_
    rintro en w' ⟨rfl, rfl⟩
    go_wp2_with fail
    refine (rIsNaN_any _ hv _).mono ?_
    rintro en w' ⟨rfl, rfl⟩
    go_wp2_with fail
    go_ret
    exact ⟨ret_int (by have := HR.out; omega), Below.refl _ _⟩
  case inr.inl.inr.inl =>
    have HF := Hd.mk (fadd_ii u v hu hv i1 i2)
    by_cases he : u = v
    · have HR : Hd (u = fadd u v) := ⟨by rw [HF.out, if_pos he]⟩
      have d1 : ((u : Int) != v) = false := by rw [he]; simp
      generalize fadd u v = R at *
      clear hs f1 f2 he HF
      go_enter Try.func59, Try.ntmps59
      go_wp2_with fail
      refine (rIsNaN_any _ hu _).mono ?_
      rintro en w' ⟨rfl, rfl⟩
      go_wp2_with fail
      refine (rIsNaN_any _ hv _).mono ?_
      rintro en w' ⟨rfl, rfl⟩
      go_wp2_with fail
      refine (rIsInf_any _ hu _).mono ?_
      rintro en w' ⟨rfl, rfl⟩
      go_wp2_with fail
      refine (rIsInf_any _ hv _).mono ?_
      rintro en w' ⟨rfl, rfl⟩
      go_wp2_with fail
      refine (rIsInf_any _ hu _).mono ?_
      rintro en w' ⟨rfl, rfl⟩
      go_wp2_with fail
      go_ret
      exact ⟨ret_int (by have := HR.out; omega), Below.refl _ _⟩
    · have HR : Hd (NaNc = fadd u v) := ⟨by rw [HF.out, if_neg he]⟩
      unfold NaNc at HR
      have d1 : ((u : Int) != v) = true := by rw [bne_iff_ne]; omega
      generalize fadd u v = R at *
      clear hs f1 f2 he HF
      go_enter Try.func59, Try.ntmps59
      go_wp2_with fail
      refine (rIsNaN_any _ hu _).mono ?_
      rintro en w' ⟨rfl, rfl⟩
      go_wp2_with fail
      refine (rIsNaN_any _ hv _).mono ?_
      rintro en w' ⟨rfl, rfl⟩
      go_wp2_with fail
      refine (rIsInf_any _ hu _).mono ?_
      rintro en w' ⟨rfl, rfl⟩
      go_wp2_with fail
      refine (rIsInf_any _ hv _).mono ?_
      rintro en w' ⟨rfl, rfl⟩
      go_wp2_with fail
      go_ret
      exact ⟨ret_int (by have := HR.out; omega), Below.refl _ _⟩
  case inr.inl.inr.inr =>
    have HR : Hd (u = fadd u v) := ⟨(fadd_if u v hu hv i1 f2).symm⟩
    generalize fadd u v = R at *
    clear hs f1 f2
    go_enter Try.func59, Try.ntmps59
    go_wp2_with fail
    refine (rIsNaN_any _ hu _).mono ?_
    rintro en w' ⟨rfl, rfl⟩
    go_wp2_with fail
    refine (rIsNaN_any _ hv _).mono ?_
    rintro en w' ⟨rfl, rfl⟩
    go_wp2_with fail
    refine (rIsInf_any _ hu _).mono ?_
    rintro en w' ⟨rfl, rfl⟩
    go_wp2_with fail
    refine (rIsInf_any _ hv _).mono ?_
    rintro en w' ⟨rfl, rfl⟩
    go_wp2_with fail
    refine (rIsInf_any _ hu _).mono ?_
    rintro en w' ⟨rfl, rfl⟩
    go_wp2_with fail
    go_ret
    exact ⟨ret_int (by have := HR.out; omega), Below.refl _ _⟩
  case inr.inr.inr.inl =>
    have HR : Hd (v = fadd u v) := ⟨(fadd_fi u v hu hv f1 i2).symm⟩
    generalize fadd u v = R at *
    clear hs f1 f2
    go_enter Try.func59, Try.ntmps59
    go_wp2_with fail
    refine (rIsNaN_any _ hu _).mono ?_
    rintro en w' ⟨rfl, rfl⟩
    go_wp2_with fail
    refine (rIsNaN_any _ hv _).mono ?_
    rintro en w' ⟨rfl, rfl⟩
    go_wp2_with fail
    refine (rIsInf_any _ hu _).mono ?_
    rintro en w' ⟨rfl, rfl⟩
    go_wp2_with fail
    refine (rIsInf_any _ hu _).mono ?_
    rintro en w' ⟨rfl, rfl⟩
    go_wp2_with fail
    refine (rIsInf_any _ hv _).mono ?_
    rintro en w' ⟨rfl, rfl⟩
    go_wp2_with fail
    go_ret
    exact ⟨ret_int (by have := HR.out; omega), Below.refl _ _⟩
  case inr.inr.inr.inr => exact absurd ⟨f1, f2⟩ hs

theorem of_real (u : Nat) (hu : F64 u) (w : World) : Calls Try.prog 63 #[.int .u64 u] w (NRet (ngr u) (mnt u) (exr u) w) := of_any u hu w

set_option maxHeartbeats 16000000 in
set_option maxRecDepth 100000 in
theorem rAdd_fin (u v : Nat) (hu : F64 u) (hv : F64 v) (f1 : fin u = true) (f2 : fin v = true) (w : World) :
    Calls Try.prog 59 #[.int .u64 u, .int .u64 v] w (URet (fadd u v) w) := by
  have n1 := nn_fin u f1
  have n2 := nn_fin v f2
  have i1 : inf u = false := by rcases ways u with ⟨_, _, h⟩ | ⟨_, _, h⟩ | ⟨_, h, _⟩ <;> first | exact h | (rw [f1] at h; cases h)
  have i2 : inf v = false := by rcases ways v with ⟨_, _, h⟩ | ⟨_, _, h⟩ | ⟨_, h, _⟩ <;> first | exact h | (rw [f2] at h; cases h)
  have HF := Hd.mk (fadd_ff u v hu hv f1 f2)
  have b1 := exr_bd u f1
  have b2 := exr_bd v f2
  have m1 := nd_mnt u
  have m2 := nd_mnt v
  have HO := Hd.mk (of_real u hu)
  have HO' := Hd.mk (of_real v hv)
  have HP : Hd (∀ w a c a' c', Dgs w a (mnt u) → Dgs w a' (mnt v) → Calls Try.prog 89 #[.agg #[.bool (ngr u), .slice a (nd (mnt u)) c, .int .i64 (exr u)], .agg #[.bool (ngr v), .slice a' (nd (mnt v)) c', .int .i64 (exr v)]] w
      (NRet (sumS (ngr u) (lowN (mnt u) (exr u) (plE (mnt u) (exr u) (mnt v) (exr v))) (ngr v) (lowN (mnt v) (exr v) (plE (mnt u) (exr u) (mnt v) (exr v))))
        (sumD (ngr u) (lowN (mnt u) (exr u) (plE (mnt u) (exr u) (mnt v) (exr v))) (ngr v) (lowN (mnt v) (exr v) (plE (mnt u) (exr u) (mnt v) (exr v))))
        (sumE (ngr u) (lowN (mnt u) (exr u) (plE (mnt u) (exr u) (mnt v) (exr v))) (ngr v) (lowN (mnt v) (exr v) (plE (mnt u) (exr u) (mnt v) (exr v))) (plE (mnt u) (exr u) (mnt v) (exr v))) w)) :=
    ⟨fun w a c a' c' h h' => plus_any (ngr u) a (mnt u) c (exr u) (ngr v) a' (mnt v) c' (exr v) w h h' (by omega) (by omega) (by omega) (by omega)⟩
  have hE := plE_bd (d := mnt u) (d' := mnt v) b1 b2
  generalize plE (mnt u) (exr u) (mnt v) (exr v) = E at *
  have nA : nd (lowN (mnt u) (exr u) E) ≤ 100 := nd_shift _ _ _ (by omega)
  have nB : nd (lowN (mnt v) (exr v) E) ≤ 100 := nd_shift _ _ _ (by omega)
  have nD := sumD_nd (ngr u) (ngr v) _ _ nA nB
  have hE2 : -1074 ≤ sumE (ngr u) (lowN (mnt u) (exr u) E) (ngr v) (lowN (mnt v) (exr v) E) E ∧ sumE (ngr u) (lowN (mnt u) (exr u) E) (ngr v) (lowN (mnt v) (exr v) E) E ≤ 971 := by
    unfold sumE; split; omega; split; omega; omega
  generalize sumS (ngr u) (lowN (mnt u) (exr u) E) (ngr v) (lowN (mnt v) (exr v) E) = S at *
  generalize sumD (ngr u) (lowN (mnt u) (exr u) E) (ngr v) (lowN (mnt v) (exr v) E) = D at *
  generalize sumE (ngr u) (lowN (mnt u) (exr u) E) (ngr v) (lowN (mnt v) (exr v) E) E = X at *
  clear nA nB hE b1 b2 m1 m2 f1 f2
  generalize ngr u = s at *
  generalize ngr v = s' at *
  generalize exr u = e at *
  generalize exr v = e' at *
  generalize mnt u = A at *
  generalize mnt v = B at *
  by_cases h0 : D = 0
  · have HZ : Hd (∀ a c w, Calls Try.prog 85 #[.agg #[.bool S, .slice a (nd D) c, .int .i64 X]] w fun en w' => en = .returned (.bool true) ∧ Below w.heap.size w w') := ⟨fun a c w => zero_t S a D c X (by omega) h0 w⟩
    rw [if_pos h0] at HF
    have HSz := Hd.mk (rSize_any u hu)
    generalize nearM S D X false = R1 at *
    clear h0
    rcases Decidable.em (mg u = 0) with hz | hz
    rcases Decidable.em (u = v) with he | he
    focus
      have HR : Hd (u = fadd u v) := ⟨by rw [HF.out, if_pos ⟨hz, he⟩]⟩
      have dz : ((mg u : Int) == 0) = true := by rw [hz]; rfl
      have de : ((u : Int) == v) = true := by rw [beq_iff_eq]; omega
      clear HF hz he
      generalize mg u = m at *
      generalize fadd u v = R at *
    rotate_left
    focus
      have HR : Hd (0 = fadd u v) := ⟨by rw [HF.out, if_neg (fun h => he h.2)]⟩
      have dz : ((mg u : Int) == 0) = true := by rw [hz]; rfl
      have de : ((u : Int) == v) = false := by rw [beq_eq_false_iff_ne]; omega
      clear HF hz he
      generalize mg u = m at *
      generalize fadd u v = R at *
    rotate_left
    focus
      have HR : Hd (0 = fadd u v) := ⟨by rw [HF.out, if_neg (fun h => hz h.1)]⟩
      have dz : ((mg u : Int) == 0) = false := by rw [beq_eq_false_iff_ne]; omega
      clear HF hz
      generalize mg u = m at *
      generalize fadd u v = R at *
    all_goals
      go_enter Try.func59, Try.ntmps59
      go_wp2_with fail
      refine (rIsNaN_any _ hu _).mono ?_
      rintro en w' ⟨rfl, rfl⟩
      go_wp2_with fail
      refine (rIsNaN_any _ hv _).mono ?_
      rintro en w' ⟨rfl, rfl⟩
      go_wp2_with fail
      refine (rIsInf_any _ hu _).mono ?_
      rintro en w' ⟨rfl, rfl⟩
      go_wp2_with fail
      refine (rIsInf_any _ hu _).mono ?_
      rintro en w' ⟨rfl, rfl⟩
      go_wp2_with fail
      refine (rIsInf_any _ hv _).mono ?_
      rintro en w' ⟨rfl, rfl⟩
      go_wp2_with fail
      refine (HO.out _).mono ?_; rintro en w1 ⟨a1, c1, rfl, hd1, hb1⟩
      have D1 := Hd.mk hd1
      have B1 := Hd.mk hb1
      clear hd1 hb1
      go_wp2_with fail
      refine (HO'.out _).mono ?_; rintro en w2 ⟨a2, c2, rfl, hd2, hb2⟩
      have D2 := Hd.mk hd2
      have B2 := Hd.mk (B1.out.trans (hb2.mono B1.out.size))
      have D1' := Hd.mk (D1.out.below hb2)
      clear hd2 hb2
      go_wp2_with fail
      refine (HP.out _ _ _ _ _ D1'.out D2.out).mono ?_; rintro en w3 ⟨a3, c3, rfl, hd3, hb3⟩
      have D3 := Hd.mk hd3
      have B3 := Hd.mk (B2.out.trans (hb3.mono B2.out.size))
      clear hd3 hb3
      generalize nd A = nA at *
      generalize nd B = nB at *
      go_wp2_with fail
      have ba : Below w3.heap.size w3 (w3.alloc (.cells #[.bool S, .slice a3 (nd D) c3, .int .i64 X] 71)) := (Below.refl _ _).alloc (Nat.le_refl _) _
      refine (HZ.out _ _ _).mono ?_; rintro en w4 ⟨rfl, hb4⟩
      have B4 := Hd.mk ((B3.out.trans (ba.mono B3.out.size)).trans (hb4.mono (by have := B3.out.size; simp; omega)))
      have hk := cellb hb4 w3.heap.size (by simp)
      clear ba hb4
      go_wp2_with fail
      refine (HSz.out _).mono ?_; rintro en w5 ⟨rfl, rfl⟩
      go_wp2_with fail
      go_ret
      exact ⟨ret_int (by have := HR.out; omega), B4.out⟩
  · have HZ : Hd (∀ a c w, Calls Try.prog 85 #[.agg #[.bool S, .slice a (nd D) c, .int .i64 X]] w fun en w' => en = .returned (.bool false) ∧ Below w.heap.size w w') := ⟨fun a c w => zero_f S a D c X (by omega) h0 w⟩
    have HN : Hd (∀ w a c, Dgs w a D → Calls Try.prog 64 #[.agg #[.bool S, .slice a (nd D) c, .int .i64 X]] w (URet (nearM S D X false) w)) := ⟨fun w a c h => near_any S a D c X w h (by omega) (by omega)⟩
    rw [if_neg h0] at HF
    have HR : Hd (nearM S D X false = fadd u v) := ⟨HF.out.symm⟩
    generalize fadd u v = R at *
    generalize nearM S D X false = R1 at *
    clear HF h0
    go_enter Try.func59, Try.ntmps59
    go_wp2_with fail
    refine (rIsNaN_any _ hu _).mono ?_
    rintro en w' ⟨rfl, rfl⟩
    go_wp2_with fail
    refine (rIsNaN_any _ hv _).mono ?_
    rintro en w' ⟨rfl, rfl⟩
    go_wp2_with fail
    refine (rIsInf_any _ hu _).mono ?_
    rintro en w' ⟨rfl, rfl⟩
    go_wp2_with fail
    refine (rIsInf_any _ hu _).mono ?_
    rintro en w' ⟨rfl, rfl⟩
    go_wp2_with fail
    refine (rIsInf_any _ hv _).mono ?_
    rintro en w' ⟨rfl, rfl⟩
    go_wp2_with fail
    refine (HO.out _).mono ?_; rintro en w1 ⟨a1, c1, rfl, hd1, hb1⟩
    have D1 := Hd.mk hd1
    have B1 := Hd.mk hb1
    clear hd1 hb1
    go_wp2_with fail
    refine (HO'.out _).mono ?_; rintro en w2 ⟨a2, c2, rfl, hd2, hb2⟩
    have D2 := Hd.mk hd2
    have B2 := Hd.mk (B1.out.trans (hb2.mono B1.out.size))
    have D1' := Hd.mk (D1.out.below hb2)
    clear hd2 hb2
    go_wp2_with fail
    refine (HP.out _ _ _ _ _ D1'.out D2.out).mono ?_; rintro en w3 ⟨a3, c3, rfl, hd3, hb3⟩
    have D3 := Hd.mk hd3
    have B3 := Hd.mk (B2.out.trans (hb3.mono B2.out.size))
    clear hd3 hb3
    generalize nd A = nA at *
    generalize nd B = nB at *
    go_wp2_with fail
    have ba : Below w3.heap.size w3 (w3.alloc (.cells #[.bool S, .slice a3 (nd D) c3, .int .i64 X] 71)) := (Below.refl _ _).alloc (Nat.le_refl _) _
    refine (HZ.out _ _ _).mono ?_; rintro en w4 ⟨rfl, hb4⟩
    have D4 := Hd.mk ((D3.out.below ba).below hb4)
    have B4 := Hd.mk ((B3.out.trans (ba.mono B3.out.size)).trans (hb4.mono (by have := B3.out.size; simp; omega)))
    have hk := cellb hb4 w3.heap.size (by simp)
    clear ba hb4
    go_wp2_with fail
    refine (HN.out _ _ _ D4.out).mono ?_; rintro en w5 ⟨rfl, hb5⟩
    have B5 := Hd.mk (B4.out.trans (hb5.mono B4.out.size))
    clear hb5
    go_wp2_with fail
    go_ret
    exact ⟨ret_int (by rw [HR.out]), B5.out⟩

/-- Add is the sum. -/
theorem rAdd_any (u v : Nat) (hu : F64 u) (hv : F64 v) (w : World) :
    Calls Try.prog 59 #[.int .u64 u, .int .u64 v] w (URet (fadd u v) w) := by
  by_cases h : fin u = true ∧ fin v = true
  · exact rAdd_fin u v hu hv h.1 h.2 w
  · exact rAdd_special u v hu hv h w

end Go.Proofs.Ytjhkjekbadbgnaa

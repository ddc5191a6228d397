/- Put together out of several texts: Md Ri Rf Ft Ge Co. -/
import Derived.Test.YteikihidblcljaaM5
import Derived.Test.YteikihidblcljaaM4
import Derived.Test.YteikihidblcljaaM6

/- Plain: quotients of numbers are whole numbers, rounded; they go with what is divided, against the divisor. No program. -/
namespace Go.Proofs.Yteikihidblcljaa
set_option linter.unusedVariables false
set_option linter.unusedSimpArgs false

theorem nzb_iff (x : Nat) : nz x = true ↔ x ≠ 0 := nz_iff

/-- More digits of a quotient: the digits ahead, and whether something is left. -/
theorem quot_more (X n j : Nat) (hn : 0 < n) : X * 2 ^ j / n / 2 ^ j = X / n ∧ ((X * 2 ^ j / n % 2 ^ j ≠ 0 ∨ X * 2 ^ j % n ≠ 0) ↔ X % n ≠ 0) := by
  have hp : 0 < 2 ^ j := Nat.pow_pos (by decide)
  have d16 : X * 2 ^ j / n / 2 ^ j = X / n := by
    rw [Nat.div_div_eq_div_mul, Nat.mul_comm n, ← Nat.div_div_eq_div_mul, Nat.mul_div_cancel _ hp]
  refine ⟨d16, ?_⟩
  have a1 := Nat.div_add_mod (X * 2 ^ j) n
  have a2 := Nat.div_add_mod (X * 2 ^ j / n) (2 ^ j)
  have a0 := Nat.div_add_mod X n
  rw [d16] at a2
  generalize X / n = Q at *
  constructor
  · intro h h0
    have a3 : X = n * Q := by omega
    have a4 : X * 2 ^ j = n * (Q * 2 ^ j) := by rw [a3, Nat.mul_assoc]
    rw [a4, Nat.mul_div_cancel_left _ hn, Nat.mul_mod_left, Nat.mul_mod_right] at h
    rcases h with h | h <;> exact h rfl
  · intro h0
    refine Decidable.byContradiction fun hc => ?_
    have b1 : X * 2 ^ j / n % 2 ^ j = 0 := Decidable.byContradiction fun h => hc (.inl h)
    have b2 : X * 2 ^ j % n = 0 := Decidable.byContradiction fun h => hc (.inr h)
    rw [b1, Nat.add_zero] at a2
    rw [b2, Nat.add_zero, ← a2] at a1
    have a3 : X = n * Q := by
      refine Nat.eq_of_mul_eq_mul_right hp ?_
      rw [← a1, Nat.mul_assoc, Nat.mul_comm Q]
    omega

/-- So many digits are always enough. -/
def qK : Nat := 5000
theorem qK_eq : qK = 5000 := rfl
/-- Twice a quotient's digits, and 1 more where something is left. -/
def q2 (A B : Nat) : Nat := 2 * (A * 2 ^ qK / B) + (nz (A * 2 ^ qK % B)).toNat

theorem toNat_le1 (b : Bool) : b.toNat ≤ 1 := by cases b <;> decide

theorem q2_mono {A B A' B' : Nat} (hB : 0 < B) (hB' : 0 < B') (h : A * B' ≤ A' * B) : q2 A B ≤ q2 A' B' := by
  unfold q2
  have hp : 0 < 2 ^ qK := Nat.pow_pos (by decide)
  generalize 2 ^ qK = P at *
  have h2 : A * P * B' ≤ A' * P * B := by
    have := Nat.mul_le_mul_right P h
    calc A * P * B' = A * B' * P := by rw [Nat.mul_right_comm]
      _ ≤ A' * B * P := this
      _ = A' * P * B := by rw [Nat.mul_right_comm]
  generalize A * P = X at *
  generalize A' * P = X' at *
  have a := Nat.div_add_mod X B
  have a' := Nat.div_add_mod X' B'
  have hq : X / B ≤ X' / B' := by
    rw [Nat.le_div_iff_mul_le hB']
    have h3 : X / B * B ≤ X := Nat.div_mul_le_self _ _
    have h4 : X / B * B' * B ≤ X' * B := by
      calc X / B * B' * B = X / B * B * B' := by rw [Nat.mul_right_comm]
        _ ≤ X * B' := Nat.mul_le_mul_right _ h3
        _ ≤ X' * B := h2
    exact Nat.le_of_mul_le_mul_right h4 hB
  have t1 := toNat_le1 (nz (X % B))
  rcases Nat.lt_or_ge (X / B) (X' / B') with hlt | hge
  · omega
  · have he : X / B = X' / B' := by omega
    by_cases hr' : X' % B' = 0
    · have hr : X % B = 0 := by
        refine Decidable.byContradiction fun hc => ?_
        have e1 : X' = B' * (X' / B') := by omega
        rw [he] at a
        generalize X' / B' = Q at *
        have : X' * B < X * B' := by
          rw [e1, ← a, Nat.add_mul]
          have e2 : B' * Q * B = B * Q * B' := by rw [Nat.mul_comm B' Q, Nat.mul_comm B Q, Nat.mul_right_comm]
          rw [e2]
          have := Nat.mul_pos (show 0 < X % B by omega) hB'
          omega
        omega
      rw [he, hr, hr']; exact Nat.le_refl _
    · rw [he, show nz (X' % B') = true from (nzb_iff _).2 hr']
      show 2 * (X' / B') + (nz (X % B)).toNat ≤ 2 * (X' / B') + 1
      omega

theorem VV_lt_big (x : Nat) (h : fin x = true) (hx : F64 x) : VV (mg x) < 2 ^ 2100 := by
  rw [VV_mnt x hx h]
  have h1 := mnt_lt x
  have h2 := exq_bd x h
  calc mnt x * 2 ^ (exq x + 1074).toNat < 2 ^ 53 * 2 ^ (exq x + 1074).toNat := Nat.mul_lt_mul_of_pos_right (by rw [show (2 : Nat) ^ 53 = 9007199254740992 by decide]; exact h1) (Nat.pow_pos (by decide))
    _ = 2 ^ (53 + (exq x + 1074).toNat) := by rw [← Nat.pow_add]
    _ ≤ 2 ^ 2100 := Nat.pow_le_pow_right (by decide) (by omega)

/-- A quotient's size, in the words of sizes. -/
theorem over_q2 (u v : Nat) (hu : F64 u) (hv : F64 v) (fu : fin u = true) (fv : fin v = true) (hm : mnt u ≠ 0) (hn : mnt v ≠ 0) :
    rnd (mnt u * 2 ^ ovK (mnt u) (mnt v) / mnt v) (exq u - ovK (mnt u) (mnt v) - exq v) (nz (mnt u * 2 ^ ovK (mnt u) (mnt v) % mnt v)) = rnd (q2 (VV (mg u)) (VV (mg v))) (-(qK : Int) - 1) false := by
  have eu := exq_bd u fu
  have ev := exq_bd v fv
  have mu := mnt_lt u
  have mv := mnt_lt v
  have hk := qK_eq
  have hpn : 0 < mnt v := by omega
  have bmu : bl (mnt u) ≤ 53 := bl_le (by rw [show (2 : Nat) ^ 53 = 9007199254740992 by decide]; exact mu)
  have bmv : bl (mnt v) ≤ 53 := bl_le (by rw [show (2 : Nat) ^ 53 = 9007199254740992 by decide]; exact mv)
  have b1 := bl_pos hm
  have hov : ovK (mnt u) (mnt v) ≤ 122 := by unfold ovK; omega
  -- digits of the quotient
  have hQ : 54 ≤ bl (mnt u * 2 ^ ovK (mnt u) (mnt v) / mnt v) := by
    have h1 : mnt v < 2 ^ bl (mnt v) := bl_lt _
    have h2 : 2 ^ (bl (mnt u) - 1) ≤ mnt u := le_of_bl (by omega)
    have h3 : 2 ^ 60 ≤ mnt u * 2 ^ ovK (mnt u) (mnt v) / mnt v := by
      rw [Nat.le_div_iff_mul_le hpn]
      calc 2 ^ 60 * mnt v ≤ 2 ^ 60 * 2 ^ bl (mnt v) := Nat.mul_le_mul_left _ (Nat.le_of_lt h1)
        _ = 2 ^ (60 + bl (mnt v)) := by rw [← Nat.pow_add]
        _ ≤ 2 ^ (bl (mnt u) - 1 + ovK (mnt u) (mnt v)) := Nat.pow_le_pow_right (by decide) (by unfold ovK; omega)
        _ = 2 ^ (bl (mnt u) - 1) * 2 ^ ovK (mnt u) (mnt v) := by rw [← Nat.pow_add]
        _ ≤ mnt u * 2 ^ ovK (mnt u) (mnt v) := Nat.mul_le_mul_right _ h2
    refine Nat.le_of_not_lt fun hc => ?_
    have h4 := bl_lt (mnt u * 2 ^ ovK (mnt u) (mnt v) / mnt v)
    have h5 : 2 ^ bl (mnt u * 2 ^ ovK (mnt u) (mnt v) / mnt v) ≤ 2 ^ 60 := Nat.pow_le_pow_right (by decide) (by omega)
    omega
  obtain ⟨j, hj⟩ : ∃ j : Nat, (exq u + 1074).toNat + qK = ovK (mnt u) (mnt v) + j + (exq v + 1074).toNat := ⟨(exq u + 1074).toNat + qK - ovK (mnt u) (mnt v) - (exq v + 1074).toNat, by omega⟩
  have hV : VV (mg u) * 2 ^ qK / VV (mg v) = mnt u * 2 ^ ovK (mnt u) (mnt v) * 2 ^ j / mnt v ∧ nz (VV (mg u) * 2 ^ qK % VV (mg v)) = nz (mnt u * 2 ^ ovK (mnt u) (mnt v) * 2 ^ j % mnt v) := by
    rw [VV_mnt u hu fu, VV_mnt v hv fv, Nat.mul_assoc (mnt u), ← Nat.pow_add, hj, Nat.pow_add, Nat.pow_add, ← Nat.mul_assoc, ← Nat.mul_assoc]
    have hp : 0 < 2 ^ (exq v + 1074).toNat := Nat.pow_pos (by decide)
    rw [Nat.mul_div_mul_right _ _ hp, Nat.mul_mod_mul_right]
    refine ⟨rfl, ?_⟩
    rw [Bool.eq_iff_iff, nzb_iff, nzb_iff]
    constructor
    · intro h h0; exact h (by rw [h0, Nat.zero_mul])
    · intro h h0; rcases Nat.mul_eq_zero.1 h0 with h1 | h1
      · exact h h1
      · omega
  unfold q2
  rw [hV.1, hV.2]
  generalize hX : mnt u * 2 ^ ovK (mnt u) (mnt v) = X at *
  obtain ⟨m1, m2⟩ := quot_more X (mnt v) j hpn
  have s1 := rnd_sticky (X * 2 ^ j / mnt v) j (exq u - ovK (mnt u) (mnt v) - exq v) (nz (X * 2 ^ j % mnt v)) (nz (X % mnt v)) (by rw [m1]; exact hQ) (by rw [nzb_iff, nzb_iff, m2])
  rw [m1] at s1
  rw [← s1]
  have hbig : bl (X / mnt v) ≤ bl (X * 2 ^ j / mnt v) := by
    refine bl_mono ?_
    rw [← m1]; exact Nat.div_le_self _ _
  have hh : (2 * (X * 2 ^ j / mnt v) + (nz (X * 2 ^ j % mnt v)).toNat) / 2 ^ 1 = X * 2 ^ j / mnt v := by
    rw [Nat.pow_one]; have := toNat_le1 (nz (X * 2 ^ j % mnt v)); omega
  have s2 := rnd_sticky (2 * (X * 2 ^ j / mnt v) + (nz (X * 2 ^ j % mnt v)).toNat) 1 (-(qK : Int)) false (nz (X * 2 ^ j % mnt v)) (by rw [hh]; omega) (by
    rw [Nat.pow_one]
    cases hz : nz (X * 2 ^ j % mnt v)
    · simp [Nat.mul_mod_right]
    · simp only [Bool.toNat_true, true_iff]
      left; omega)
  rw [hh] at s2
  have e : -(qK : Int) - ((1 : Nat) : Int) = -(qK : Int) - 1 := by omega
  rw [e] at s2
  rw [s2]
  have eE : exq u - (ovK (mnt u) (mnt v) : Int) - exq v - (j : Int) = -(qK : Int) := by omega
  rw [eE]

/-- A number divided by one above 0. -/
def zq (z : Int) (B : Nat) : Int := if z < 0 then -(q2 z.natAbs B : Int) else q2 z.natAbs B

theorem zq_mono {z z' : Int} {B : Nat} (hB : 0 < B) (h : z ≤ z') : zq z B ≤ zq z' B := by
  unfold zq
  by_cases h1 : z < 0
  · rw [if_pos h1]
    by_cases h2 : z' < 0
    · rw [if_pos h2]
      have := q2_mono (A := z'.natAbs) (A' := z.natAbs) hB hB (Nat.mul_le_mul_right _ (by omega))
      omega
    · rw [if_neg h2]; omega
  · rw [if_neg h1, if_neg (by omega)]
    have := q2_mono (A := z.natAbs) (A' := z'.natAbs) hB hB (Nat.mul_le_mul_right _ (by omega))
    omega
theorem zq_anti {z : Int} {B B' : Nat} (hB : 0 < B) (h : B ≤ B') (hz : 0 ≤ z) : zq z B' ≤ zq z B := by
  unfold zq
  rw [if_neg (by omega), if_neg (by omega)]
  have := q2_mono (A := z.natAbs) (A' := z.natAbs) (B := B') (B' := B) (by omega) hB (Nat.mul_le_mul_left _ h)
  omega

theorem q2_zero (B : Nat) : q2 0 B = 0 := by unfold q2; rw [Nat.zero_mul, Nat.zero_div, Nat.zero_mod]; rfl
theorem zq_sg (s : Bool) (A B : Nat) : zq (sg s A) B = sg s (q2 A B) := by
  have hz := q2_zero B
  unfold zq sg
  cases s
  · simp only [Bool.false_eq_true, if_false]
    rw [if_neg (by omega), Int.natAbs_natCast]
  · simp only [if_true]
    by_cases hA : A = 0
    · subst hA
      rw [if_neg (by decide), show (-((0 : Nat) : Int)).natAbs = 0 from rfl, hz]; rfl
    · rw [if_pos (by omega), show (-(A : Int)).natAbs = A by omega]
theorem rz_sg (e : Int) (he : e ≤ -1074) (s : Bool) (q : Nat) : rz e (sg s q) = if s then -((min (rnd q e false) 9218868437227405312 : Nat) : Int) else ((min (rnd q e false) 9218868437227405312 : Nat) : Int) := by
  have hz := rnd_zero e he
  unfold rz sg
  cases s
  · simp only [Bool.false_eq_true, if_false]
    rw [if_neg (by omega), Int.natAbs_natCast]
  · simp only [if_true]
    by_cases hA : q = 0
    · subst hA
      rw [if_neg (by decide), show (-((0 : Nat) : Int)).natAbs = 0 from rfl, hz]; rfl
    · rw [if_pos (by omega), show (-(q : Int)).natAbs = q by omega]

/-- A quotient of numbers is the quotient, rounded. -/
theorem rk_fdiv (u v : Nat) (hu : F64 u) (hv : F64 v) (fu : fin u = true) (fv : fin v = true) (h0 : 0 < rk v) :
    rk (fdiv u v) = rz (-(qK : Int) - 1) (zq (SV u) (VV (mg v))) ∧ nn (fdiv u v) = false := by
  have gv : ng v = false := by
    cases hg : ng v
    · rfl
    · rw [rk_of_neg hg] at h0; omega
  have mv : mg v ≠ 0 := fun h => by rw [rk_of_pos gv, h] at h0; omega
  have hn : mnt v ≠ 0 := fun h => mv ((mnt_zero v).1 h)
  have hk := qK_eq
  have key : ∃ r, r ≤ 9218868437227405312 ∧ fdiv u v = dbl.word (ng u) r ∧ r = min (rnd (q2 (VV (mg u)) (VV (mg v))) (-(qK : Int) - 1) false) 9218868437227405312 := by
    refine ⟨_, Nat.min_le_right _ _, ?_, rfl⟩
    rw [fdiv_ff u v hu hv fu fv mv (ng u)]
    unfold overN
    have hw := word_sgw u v
    rw [gv, Bool.xor_false] at hw
    rw [hw]
    refine congrArg (fun z => sgw u v + z) ?_
    by_cases hm : mnt u = 0
    · rw [if_pos hm]
      have : VV (mg u) = 0 := by rw [(mnt_zero u).1 hm]; exact VV_zero
      rw [this]
      have z : q2 0 (VV (mg v)) = 0 := by unfold q2; rw [Nat.zero_mul, Nat.zero_div, Nat.zero_mod]; rfl
      rw [z, rnd_zero _ (by omega), mg_0]; rfl
    · rw [if_neg hm]
      have e1 : exr u = exq u := by unfold exr; rw [if_neg hm]
      have e2 : exr v = exq v := by unfold exr; rw [if_neg hn]
      rw [e1, e2, ← over_q2 u v hu hv fu fv hm hn]
      unfold nearM
      rw [if_neg (quot_pos (mnt u) (mnt v) hm hn (mnt_lt u)).2, mg_madeN]
  obtain ⟨r, r1, r2, r3⟩ := key
  obtain ⟨w1, w2, _, _⟩ := rk_word (ng u) r r1
  rw [r2]
  refine ⟨?_, w2⟩
  rw [w1, SV_sg]
  generalize VV (mg u) = A at *
  generalize VV (mg v) = B at *
  rw [zq_sg, rz_sg _ (by omega), r3]

theorem VV_pos_of (v : Nat) (h : 0 < rk v) : 0 < VV (mg v) ∧ SV v = (VV (mg v) : Int) := by
  have gv : ng v = false := by
    cases hg : ng v
    · rfl
    · rw [rk_of_neg hg] at h; omega
  refine ⟨VV_pos (by rw [rk_of_pos gv] at h; omega), ?_⟩
  rw [SV_sg, gv]; rfl

theorem fdiv_mono (u u' v : Nat) (a1 : F64 u) (a2 : F64 u') (a3 : F64 v) (b1 : fin u = true) (b2 : fin u' = true) (b3 : fin v = true) (h : rk u ≤ rk u') (h0 : 0 < rk v) : rk (fdiv u v) ≤ rk (fdiv u' v) := by
  rw [(rk_fdiv u v a1 a3 b1 b3 h0).1, (rk_fdiv u' v a2 a3 b2 b3 h0).1]
  exact rz_mono _ (by rw [qK_eq]; decide) (zq_mono (VV_pos_of v h0).1 (SV_le.2 h))
theorem fdiv_anti (u v v' : Nat) (a1 : F64 u) (a2 : F64 v) (a3 : F64 v') (b1 : fin u = true) (b2 : fin v = true) (b3 : fin v' = true) (hu : 0 ≤ rk u) (h : rk v ≤ rk v') (h0 : 0 < rk v) : rk (fdiv u v') ≤ rk (fdiv u v) := by
  have h0' : 0 < rk v' := by omega
  rw [(rk_fdiv u v a1 a2 b1 b2 h0).1, (rk_fdiv u v' a1 a3 b1 b3 h0').1]
  refine rz_mono _ (by rw [qK_eq]; decide) (zq_anti (VV_pos_of v h0).1 ?_ (SV_nonneg hu))
  have := SV_le.2 h
  have := (VV_pos_of v h0).2
  have := (VV_pos_of v' h0').2
  omega
theorem fdiv_nonneg (u v : Nat) (a1 : F64 u) (a3 : F64 v) (b1 : fin u = true) (b3 : fin v = true) (h : 0 ≤ rk u) (h0 : 0 < rk v) : 0 ≤ rk (fdiv u v) := by
  rw [(rk_fdiv u v a1 a3 b1 b3 h0).1]
  have := rz_mono (z := 0) (-(qK : Int) - 1) (by rw [qK_eq]; decide) (show (0 : Int) ≤ zq (SV u) (VV (mg v)) by
    unfold zq; have := SV_nonneg h; rw [if_neg (by omega)]; omega)
  rwa [rz_zero _ (by rw [qK_eq]; decide)] at this

end Go.Proofs.Yteikihidblcljaa

/- The walks of the reference's Whole, Int and Floor. -/
namespace Go.Proofs.Yteikihidblcljaa
open Go.RowKit
set_option linter.unusedSimpArgs false
set_option linter.unusedVariables false

set_option maxHeartbeats 3200000 in
theorem whole_any (n : Int) (h1 : -9223372036854775808 ≤ n) (h2 : n ≤ 9223372036854775807) (w : World) :
    Calls Try.prog 79 #[.int .i64 n] w (NRet (decide (n < 0)) n.natAbs 0 w) := by
  by_cases hn : n < 0
  · rw [show decide (n < 0) = true by simpa using hn]
    obtain ⟨m, hm⟩ : ∃ m : Nat, -(n + 1) = (m : Int) := ⟨(-(n + 1)).toNat, by omega⟩
    obtain ⟨k, hk⟩ : ∃ k : Nat, (m : Int) + 1 = (k : Int) := ⟨m + 1, by omega⟩
    obtain rfl : n.natAbs = k := by omega
    have HD := Hd.mk (digits_any n.natAbs (by omega))
    generalize n.natAbs = K at *
    have c0 : decide (n < 0) = true := by simpa using hn
    have m0 : (0 : Int) ≤ m := by omega
    have m1 : (m : Int) ≤ 9223372036854775807 := by omega
    clear hn
    go_enter Try.func79, Try.ntmps79
    go_wp2_with fail
    refine (HD.out _).mono ?_; rintro en w1 ⟨a2, c2, rfl, hc2, hd2, hb2, hf2⟩
    have hk0 := cellb hb2 w.heap.size (by simp)
    have hz := hb2.size
    simp at hz
    have HB : Hd (Below w.heap.size w w1) := ⟨((Below.refl _ _).alloc (Nat.le_refl _) _).trans (hb2.mono (by simp))⟩
    have HF : Hd (∀ b o v, a2 = some ⟨b, o, v⟩ → w.heap.size < b) := ⟨fun b o v e => by have := hf2 b o v e; simp at this; omega⟩
    have HDd := Hd.mk hd2
    clear hb2 hd2 hc2 hf2
    go_wp2_with fail
    refine bodyPost_ret (v := .agg #[.bool true, .slice a2 (nd K) c2, .int .i64 0]) (by simp [results, Try.results79, go_sem, hk0]) rfl ⟨a2, c2, rfl, ?_, ?_⟩
    · repeat (refine Dgs.setOther ?_ HF.out _ _)
      exact HDd.out
    · (repeat (refine Below.setCell ?_ (by simp) _)); exact HB.out
  · rw [show decide (n < 0) = false by simpa using hn]
    obtain ⟨k, rfl⟩ : ∃ k : Nat, n = (k : Int) := ⟨n.toNat, by omega⟩
    rw [Int.natAbs_natCast]
    have HD := Hd.mk (digits_any k (by omega))
    have m0 : (0 : Int) ≤ k := by omega
    clear hn
    go_enter Try.func79, Try.ntmps79
    go_wp2_with fail
    refine (HD.out _).mono ?_; rintro en w1 ⟨a2, c2, rfl, hc2, hd2, hb2, hf2⟩
    have hk0 := cellb hb2 w.heap.size (by simp)
    have hz := hb2.size
    simp at hz
    have HB : Hd (Below w.heap.size w w1) := ⟨((Below.refl _ _).alloc (Nat.le_refl _) _).trans (hb2.mono (by simp))⟩
    have HF : Hd (∀ b o v, a2 = some ⟨b, o, v⟩ → w.heap.size < b) := ⟨fun b o v e => by have := hf2 b o v e; simp at this; omega⟩
    have HDd := Hd.mk hd2
    clear hb2 hd2 hc2 hf2
    go_wp2_with fail
    refine bodyPost_ret (v := .agg #[.bool false, .slice a2 (nd k) c2, .int .i64 0]) (by simp [results, Try.results79, go_sem, hk0]) rfl ⟨a2, c2, rfl, ?_, ?_⟩
    · repeat (refine Dgs.setOther ?_ HF.out _ _)
      exact HDd.out
    · (repeat (refine Below.setCell ?_ (by simp) _)); exact HB.out

theorem nearM_int (n : Int) : nearM (decide (n < 0)) n.natAbs 0 false = floatOfInt .f64 n := by
  rw [floatOfInt_sg]
  by_cases h : n.natAbs = 0
  · obtain rfl : n = 0 := by omega
    rfl
  · exact nearM_nearest h

theorem nd_64 (n : Int) (h1 : -9223372036854775808 ≤ n) (h2 : n ≤ 9223372036854775807) : nd n.natAbs ≤ 2 := nd_le (by rw [BB_pow, show 2 ^ (32 * 2) = 18446744073709551616 by decide]; omega)

end Go.Proofs.Yteikihidblcljaa

/- The walk of the reference's Floor. -/
namespace Go.Proofs.Yteikihidblcljaa
open Go.RowKit
set_option linter.unusedSimpArgs false
set_option linter.unusedVariables false

/-- A floor by its parts. -/
theorem fl0_parts (u : Nat) : fl0 u = if ng u then -((VV (mg u) / U1 + (VV (mg u) % U1 != 0).toNat : Nat) : Int) else ((VV (mg u) / U1 : Nat) : Int) := by
  unfold fl0
  rw [SV_sg]
  have hp := U1_pos
  generalize VV (mg u) = V
  have a := Nat.div_add_mod V U1
  have l := Nat.mod_lt V hp
  cases ng u
  · rw [sg_f]; rfl
  · rw [sg_t]
    simp only [if_true]
    by_cases hr : V % U1 = 0
    · rw [hr]
      simp only [bne_self_eq_false, Bool.toNat_false, Nat.add_zero]
      have : (V : Int) = (U1 : Int) * ((V / U1 : Nat) : Int) := by rw [← Int.natCast_mul]; omega
      rw [this, ← Int.mul_neg, Int.mul_ediv_cancel_left _ (by omega)]
    · rw [show (V % U1 != 0) = true by rw [bne_iff_ne]; exact hr]
      simp only [Bool.toNat_true]
      have h1 : (V : Int) = (U1 : Int) * ((V / U1 : Nat) : Int) + ((V % U1 : Nat) : Int) := by rw [← Int.natCast_mul]; omega
      generalize V / U1 = Q at *
      generalize V % U1 = R at *
      rw [h1]
      have h2 : -((U1 : Int) * (Q : Int) + (R : Int)) = ((U1 : Int) - R) + (U1 : Int) * (-((Q : Int) + 1)) := by
        rw [Int.mul_neg, Int.mul_add, Int.mul_one]; omega
      rw [h2, Int.add_mul_ediv_left _ _ (by omega), Int.ediv_eq_zero_of_lt (by omega) (by omega)]
      omega

theorem fl0_up (u : Nat) (hu : F64 u) (h : fin u = true) (hE : 0 ≤ exq u) : fl0 u = if ng u then -((mnt u * 2 ^ (exq u).toNat : Nat) : Int) else ((mnt u * 2 ^ (exq u).toNat : Nat) : Int) := by
  obtain ⟨a, b⟩ := shift_parts (mnt u) (exq u) (by omega)
  rw [← VV_mnt u hu h, show (-exq u).toNat = 0 by omega, Nat.pow_zero, Nat.div_one, Nat.shiftLeft_eq] at a
  rw [← VV_mnt u hu h, show (-exq u).toNat = 0 by omega, Nat.pow_zero, Nat.mod_one] at b
  rw [fl0_parts, ← a, b.1 rfl]
  rfl
theorem fl0_dn (u : Nat) (hu : F64 u) (h : fin u = true) (hE : exq u < 0) : fl0 u = if ng u then -((mnt u / 2 ^ (-exq u).toNat + (nz (mnt u % 2 ^ (-exq u).toNat)).toNat : Nat) : Int) else ((mnt u / 2 ^ (-exq u).toNat : Nat) : Int) := by
  have := exq_ge u
  obtain ⟨a, b⟩ := shift_parts (mnt u) (exq u) (by omega)
  rw [← VV_mnt u hu h, Nat.shiftLeft_eq, show (exq u).toNat = 0 by omega, Nat.pow_zero, Nat.mul_one] at a
  rw [← VV_mnt u hu h, Nat.shiftLeft_eq, show (exq u).toNat = 0 by omega, Nat.pow_zero, Nat.mul_one] at b
  rw [fl0_parts, ← a]
  have : (VV (mg u) % U1 != 0) = nz (mnt u % 2 ^ (-exq u).toNat) := by
    rw [Bool.eq_iff_iff, bne_iff_ne, nz_iff, ne_eq, ne_eq, b]
  rw [this]

end Go.Proofs.Yteikihidblcljaa

/- The walks of the reference's facts and Exp. -/
namespace Go.Proofs.Yteikihidblcljaa
open Go.RowKit
set_option linter.unusedSimpArgs false
set_option linter.unusedVariables false

def facI : List Nat := [1, 1, 2, 6, 24, 120, 720, 5040, 40320, 362880, 3628800, 39916800, 479001600, 6227020800]
theorem facI_ok : (List.range 14).all (fun k => decide (facI.getD k 0 ≤ 6227020800) && decide (1 < k → facI.getD (k - 1) 0 * k = facI.getD k 0) && decide (k ≤ 1 → facI.getD (k - 1) 0 = 1 ∧ facI.getD k 0 = 1) && (fdiv oneW (floatOfInt .f64 ((facI.getD k 0 : Nat) : Int)) == exC.getD k 0)) = true := by decide +kernel
theorem facI_step (k : Nat) (h : k < 14) : facI.getD k 0 ≤ 6227020800 ∧ (1 < k → facI.getD (k - 1) 0 * k = facI.getD k 0) ∧ (k ≤ 1 → facI.getD (k - 1) 0 = 1 ∧ facI.getD k 0 = 1) ∧ fdiv oneW (floatOfInt .f64 ((facI.getD k 0 : Nat) : Int)) = exC.getD k 0 := by
  have a := (List.all_eq_true.1 facI_ok) k (List.mem_range.2 h)
  simp only [Bool.and_eq_true, decide_eq_true_eq, beq_iff_eq] at a
  exact ⟨a.1.1.1, a.1.1.2, a.1.2, a.2⟩

/-- It returns a list of words. -/
def URetL (l : List Nat) (w : World) (e : Ending) (w' : World) : Prop := ∃ a c, e = .returned (.slice a l.length c) ∧ Us w' a l ∧ Below w.heap.size w w'

theorem owns_below {w w' : World} {base : Nat} {e : TypeId} {size : Nat} {v : Value} {n : Nat} {xs : List Value} (h : w.ownsRow base e size v n xs) (hb : Below w.heap.size w w') : w'.ownsRow base e size v n xs := by
  obtain ⟨h1, h2 | ⟨g, cap, cur, a, b, c, d⟩⟩ := h
  · exact ⟨h1, .inl h2⟩
  · refine ⟨h1, .inr ⟨g, cap, cur, a, b, ?_, d⟩⟩
    rw [hb.block g (Array.getElem?_eq_some_iff.1 c).1, c]

theorem F64_fdiv1 (x : Nat) : F64 (floatOfInt .f64 (x : Int)) := by
  rw [floatOfInt_sg]; exact F64_of_lt (Ieee.Format.nearest_lt _ _ _ _)

theorem w710_int : floatOfInt .f64 710 = w710 ∧ floatOfInt .f64 (-746) = w746 := by decide +kernel
theorem ltB_num (x y : Nat) (h : nn x = false) (h' : nn y = false) : ltB x y = decide (rk x < rk y) := by unfold ltB; rw [h, h']; rfl
theorem nn_w710 : nn w710 = false ∧ nn w746 = false := by decide +kernel

/-- What Near makes of p's real, k places on. -/
theorem near_scal (p : Nat) (k : Int) : nearM (ngr p) (mnt p) (exr p + k) false = scal p k := by
  unfold scal
  by_cases h : mnt p = 0
  · rw [if_pos ((mnt_zero p).1 h), h]; rfl
  · rw [if_neg (fun h2 => h ((mnt_zero p).2 h2)), nearM_nearest h]
    unfold ngr exr
    rw [if_neg h, show (mnt p == 0) = false by rw [beq_eq_false_iff_ne]; exact h]
    simp

end Go.Proofs.Yteikihidblcljaa

/- Plain: numbers between two numbers; a positive number's logarithm is a number; what Exp tells is no NaN. No program. -/
namespace Go.Proofs.Yteikihidblcljaa
open Go.RowKit
set_option linter.unusedVariables false
set_option linter.unusedSimpArgs false

theorem SV_of_rk {x y : Nat} (h : rk x = rk y) : SV x = SV y := by
  have a := SV_le (x := x) (y := y)
  have b := SV_le (x := y) (y := x)
  omega
theorem z0_facts : F64 0 ∧ nn 0 = false ∧ rk 0 = 0 := ⟨⟨by decide⟩, by decide +kernel, by decide +kernel⟩
/-- What Exp tells of a number is no NaN and not below 0. -/
theorem fexp_pos (x : Nat) (hx : F64 x) (hn : nn x = false) : nn (fexp x) = false ∧ 0 ≤ rk (fexp x) := by
  unfold fexp
  rw [hn, if_neg (by simp)]
  split
  · decide +kernel
  · split
    · decide +kernel
    · rename_i h1 h2
      have r10 : rk w710 < 9218868437227405312 := by decide +kernel
      have r46 : -9218868437227405312 < rk w746 := by decide +kernel
      have E := ex_facts x hx ((rk_fin x).2 ⟨by omega, by omega⟩) (by omega) (by omega)
      obtain ⟨p1, p2, p3⟩ := ex_poly x E
      generalize horn exC (exR x (exN x)) = p at *
      unfold scal
      split
      · decide +kernel
      · rename_i h0
        have hs : ng p = false := by
          cases hg : ng p
          · rfl
          · rw [rk_of_neg hg] at p3; omega
        rw [hs]
        refine ⟨nearest_nn _ _ _, ?_⟩
        have m0 : mnt p ≠ 0 := fun h => h0 ((mnt_zero p).1 h)
        rw [nearest_rnd _ _ _ m0, (rk_word false _ (Nat.min_le_right _ _)).1]
        simp only [Bool.false_eq_true, if_false]
        omega

theorem of_rk {x y : Nat} (hx : F64 x) (hy : F64 y) (h : rk x = rk y) (h0 : rk y ≠ 0) : x = y := by
  have a := hx.out
  have b := hy.out
  have e : ∀ z, rk z = if 9223372036854775808 ≤ z then -((z % 9223372036854775808 : Nat) : Int) else ((z % 9223372036854775808 : Nat) : Int) := fun z => by
    unfold rk ng mg; simp only [decide_eq_true_eq]
  rw [e x, e y] at h
  rw [e y] at h0
  split at h <;> split at h <;> omega

theorem rk0_two {z : Nat} (hz : F64 z) (h : rk z = 0) : z = 0 ∨ z = 9223372036854775808 := by
  have a := hz.out
  have e : ∀ z, rk z = if 9223372036854775808 ≤ z then -((z % 9223372036854775808 : Nat) : Int) else ((z % 9223372036854775808 : Nat) : Int) := fun z => by
    unfold rk ng mg; simp only [decide_eq_true_eq]
  rw [e z] at h
  split at h <;> omega

theorem fin0 {z : Nat} (h : rk z = 0) : fin z = true := by rw [rk_fin]; omega
theorem SV0 {z : Nat} (h : rk z = 0) : SV z = 0 := by
  have := SV_of_rk (x := z) (y := 0) (by rw [h]; decide +kernel)
  rw [this]; decide +kernel
theorem rk_flip0 {z : Nat} (hz : F64 z) (h : rk z = 0) : rk (flip64 z) = 0 := by
  rcases rk0_two hz h with rfl | rfl
  · decide +kernel
  · decide +kernel

theorem mul0l {z q : Nat} (hz : F64 z) (hq : F64 q) (h : rk z = 0) (fq : fin q = true) : rk (fmul z q) = 0 := by
  rw [(rk_fmul z q hz hq (fin0 h) fq).1, SV0 h, Int.zero_mul, rz_zero _ (by decide)]
theorem mul0r {z q : Nat} (hz : F64 z) (hq : F64 q) (h : rk z = 0) (fq : fin q = true) : rk (fmul q z) = 0 := by
  rw [(rk_fmul q z hq hz fq (fin0 h)).1, SV0 h, Int.mul_zero, rz_zero _ (by decide)]
theorem div0l {z q : Nat} (hz : F64 z) (hq : F64 q) (h : rk z = 0) (fq : fin q = true) (h0 : 0 < rk q) : rk (fdiv z q) = 0 := by
  rw [(rk_fdiv z q hz hq (fin0 h) fq h0).1, SV0 h]
  have : zq 0 (VV (mg q)) = 0 := by unfold zq; rw [if_neg (by decide), show (0 : Int).natAbs = 0 from rfl, q2_zero]; rfl
  rw [this, rz_zero _ (by rw [qK_eq]; decide)]
theorem one_add0 {z : Nat} (hz : F64 z) (h : rk z = 0) : fadd oneW z = oneW := by
  refine of_rk (F64_fadd _ _) one_w.w ?_ (by decide +kernel)
  rw [(rk_fadd oneW z one_w.w hz one_w.f (fin0 h)).1, SV0 h, Int.add_zero, rz_SV _ one_w.f]
theorem exp0 {z : Nat} (hz : F64 z) (h : rk z = 0) : fexp z = oneW := by
  rcases rk0_two hz h with rfl | rfl
  · decide +kernel
  · decide +kernel
theorem ln1 : rk (fln oneW) = 0 := by decide +kernel

/-- A number from lo to hi. -/
structure Btw (lo x hi : Nat) : Prop where
  w : F64 x
  f : fin x = true
  l : rk lo ≤ rk x
  h : rk x ≤ rk hi

theorem Btw.add {a u b c v d : Nat} (h : Btw a u b) (h' : Btw c v d) (ha : F64 a) (hb : F64 b) (hc : F64 c) (hd : F64 d) (fa : fin a = true) (fb : fin b = true) (fc : fin c = true) (fd : fin d = true) (f1 : fin (fadd a c) = true) (f2 : fin (fadd b d) = true) : Btw (fadd a c) (fadd u v) (fadd b d) := by
  have l := fadd_mono a u c v ha h.w hc h'.w fa h.f fc h'.f h.l h'.l
  have r := fadd_mono u b v d h.w hb h'.w hd h.f fb h'.f fd h.h h'.h
  exact ⟨F64_fadd _ _, fin_mid _ _ _ l r f1 f2, l, r⟩

theorem Btw.sub {a u b c v d : Nat} (h : Btw a u b) (h' : Btw c v d) (ha : F64 a) (hb : F64 b) (hc : F64 c) (hd : F64 d) (fa : fin a = true) (fb : fin b = true) (fc : fin c = true) (fd : fin d = true) (f1 : fin (fsub a d) = true) (f2 : fin (fsub b c) = true) : Btw (fsub a d) (fsub u v) (fsub b c) := by
  have l := fsub_mono a u d v ha h.w hd h'.w fa h.f fd h'.f h.l h'.h
  have r := fsub_mono u b v c h.w hb h'.w hc h.f fb h'.f fc h.h h'.l
  exact ⟨F64_fsub _ _, fin_mid _ _ _ l r f1 f2, l, r⟩

/-- A factor from -a to a, one from 0 to b. -/
theorem Btw.mul {a n u v b : Nat} (h : Btw n u a) (h' : Btw 0 v b) (ha : F64 a) (hn : F64 n) (hb : F64 b) (fa : fin a = true) (fn : fin n = true) (fb : fin b = true) (n0 : rk n ≤ 0) (a0 : 0 ≤ rk a) (f1 : fin (fmul n b) = true) (f2 : fin (fmul a b) = true) : Btw (fmul n b) (fmul u v) (fmul a b) := by
  have v0 : 0 ≤ rk v := by have := h'.l; rw [z0_facts.2.2] at this; exact this
  have sn := SV_nonpos n0
  have sa := SV_nonneg a0
  have sv := SV_nonneg v0
  have vb := SV_le.2 h'.h
  have nu := SV_le.2 h.l
  have ua := SV_le.2 h.h
  have l : rk (fmul n b) ≤ rk (fmul u v) := by
    rw [(rk_fmul n b hn hb fn fb).1, (rk_fmul u v h.w h'.w h.f h'.f).1]
    exact rz_mono _ (by decide) (Int.le_trans (Int.mul_le_mul_of_nonpos_left sn vb) (Int.mul_le_mul_of_nonneg_right nu sv))
  have r : rk (fmul u v) ≤ rk (fmul a b) := by
    rw [(rk_fmul a b ha hb fa fb).1, (rk_fmul u v h.w h'.w h.f h'.f).1]
    exact rz_mono _ (by decide) (Int.le_trans (Int.mul_le_mul_of_nonneg_right ua sv) (Int.mul_le_mul_of_nonneg_left vb sa))
  exact ⟨F64_fmul _ _, fin_mid _ _ _ l r f1 f2, l, r⟩

theorem zq_anti_neg {z : Int} {B B' : Nat} (hB : 0 < B) (h : B ≤ B') (hz : z ≤ 0) : zq z B ≤ zq z B' := by
  have hB' : 0 < B' := by omega
  unfold zq
  have hm := q2_mono (A := z.natAbs) (A' := z.natAbs) hB' hB (Nat.mul_le_mul_left _ h)
  split
  · omega
  · have : z.natAbs = 0 := by omega
    rw [this, q2_zero, q2_zero]; omega
theorem fdiv_anti_neg (u v v' : Nat) (a1 : F64 u) (a2 : F64 v) (a3 : F64 v') (b1 : fin u = true) (b2 : fin v = true) (b3 : fin v' = true) (hu : rk u ≤ 0) (h : rk v ≤ rk v') (h0 : 0 < rk v) : rk (fdiv u v) ≤ rk (fdiv u v') := by
  have h0' : 0 < rk v' := by omega
  rw [(rk_fdiv u v a1 a2 b1 b2 h0).1, (rk_fdiv u v' a1 a3 b1 b3 h0').1]
  refine rz_mono _ (by rw [qK_eq]; decide) (zq_anti_neg (VV_pos_of v h0).1 ?_ (SV_nonpos hu))
  have := SV_le.2 h
  have := (VV_pos_of v h0).2
  have := (VV_pos_of v' h0').2
  omega
/-- Divided by what is at least 1. -/
theorem Btw.div {a n u v b : Nat} (h : Btw n u a) (h' : Btw oneW v b) (ha : F64 a) (hn : F64 n) (fa : fin a = true) (fn : fin n = true) (n0 : rk n ≤ 0) (a0 : 0 ≤ rk a) (f1 : fin (fdiv n oneW) = true) (f2 : fin (fdiv a oneW) = true) : Btw (fdiv n oneW) (fdiv u v) (fdiv a oneW) := by
  have o0 : 0 < rk oneW := by decide +kernel
  have v0 : 0 < rk v := by have := h'.l; omega
  have l : rk (fdiv n oneW) ≤ rk (fdiv u v) := Int.le_trans (fdiv_anti_neg n oneW v hn one_w.w h'.w fn one_w.f h'.f n0 h'.l o0) (fdiv_mono n u v hn h.w h'.w fn h.f h'.f h.l v0)
  have r : rk (fdiv u v) ≤ rk (fdiv a oneW) := Int.le_trans (fdiv_mono u a v h.w ha h'.w h.f fa h'.f h.h v0) (fdiv_anti a oneW v ha one_w.w h'.w fa one_w.f h'.f a0 h'.l o0)
  exact ⟨F64_fdiv _ _, fin_mid _ _ _ l r f1 f2, l, r⟩

theorem btw_c (c : Nat) (h : F64 c) (f : fin c = true) : Btw c c c := ⟨h, f, Int.le_refl _, Int.le_refl _⟩

-- a number's logarithm is a number
theorem lnM_btw (x : Nat) (h0 : mnt x ≠ 0) : Btw halfW (lnM x) twoW := by
  obtain ⟨a, b, _, _⟩ := lnR_bd x h0
  have hw := lnM0_w x h0
  have hr := (lnM0_row x h0).1
  have r0 : rk (lnM0 x) = ((4602678819172646912 + lnR x : Nat) : Int) := by
    rw [hr]; unfold rk; rw [ng_small _ (by omega), mg_small _ (by omega)]; rfl
  have e1 : rk oneW = 4607182418800017408 := by decide +kernel
  have e2 : rk twoW = 4611686018427387904 := by decide +kernel
  have e3 : rk halfW ≤ rk oneW := by decide +kernel
  have B : Btw oneW (lnM0 x) twoW := ⟨hw.w, hw.f, by omega, by omega⟩
  unfold lnM
  split
  · have l := fmul_mono oneW (lnM0 x) halfW one_w.w B.w half_w.w one_w.f B.f half_w.f B.l (by decide +kernel)
    have r := fmul_mono (lnM0 x) twoW halfW B.w two_w.w half_w.w B.f two_w.f half_w.f B.h (by decide +kernel)
    have l' : rk (fmul oneW halfW) = rk halfW := by decide +kernel
    have r' : rk (fmul twoW halfW) ≤ rk twoW := by decide +kernel
    refine ⟨F64_fmul _ _, fin_mid _ _ _ l r (by decide +kernel) (by decide +kernel), by omega, by omega⟩
  · exact ⟨B.w, B.f, by have := B.l; omega, B.h⟩

theorem lnC_up : okUp oneW lnC = true := by decide +kernel

abbrev moneW : Nat := 13830554455654793216
theorem lnS_btw (m : Nat) (h : Btw halfW m twoW) : Btw moneW (lnS m) oneW := by
  have o := btw_c oneW one_w.w one_w.f
  have n := h.sub o half_w.w two_w.w one_w.w one_w.w half_w.f two_w.f one_w.f one_w.f (by decide +kernel) (by decide +kernel)
  have d := h.add o half_w.w two_w.w one_w.w one_w.w half_w.f two_w.f one_w.f one_w.f (by decide +kernel) (by decide +kernel)
  have d' : Btw oneW (fadd m oneW) (fadd twoW oneW) := ⟨d.w, d.f, Int.le_trans (by decide +kernel) d.l, d.h⟩
  have n' : Btw moneW (fsub m oneW) oneW := ⟨n.w, n.f, Int.le_trans (by decide +kernel) n.l, Int.le_trans n.h (by decide +kernel)⟩
  have q := n'.div d' one_w.w ⟨by decide⟩ one_w.f (by decide +kernel) (by decide +kernel) (by decide +kernel) (by decide +kernel) (by decide +kernel)
  unfold lnS
  exact ⟨q.w, q.f, Int.le_trans (by decide +kernel) q.l, Int.le_trans q.h (by decide +kernel)⟩

theorem sq_btw (s : Nat) (h : Btw moneW s oneW) : Btw 0 (fmul s s) oneW := by
  have a := SV_le.2 h.l
  have b := SV_le.2 h.h
  have e1 : SV moneW = -SV oneW := by decide +kernel
  rw [e1] at a
  have l : rk 0 ≤ rk (fmul s s) := by
    rw [(rk_fmul s s h.w h.w h.f h.f).1, z0_facts.2.2]
    have hsq : 0 ≤ SV s * SV s := by
      rcases Int.le_total 0 (SV s) with g | g
      · exact Int.mul_nonneg g g
      · exact Int.mul_nonneg_of_nonpos_of_nonpos g g
    have := rz_mono (z := 0) (z' := SV s * SV s) (-2148) (by decide) hsq
    rwa [rz_zero _ (by decide)] at this
  have r : rk (fmul s s) ≤ rk (fmul oneW oneW) := by
    rw [(rk_fmul s s h.w h.w h.f h.f).1, (rk_fmul oneW oneW one_w.w one_w.w one_w.f one_w.f).1]
    refine rz_mono _ (by decide) ?_
    generalize SV oneW = U at *
    generalize SV s = S at *
    rcases Int.le_total 0 S with g | g
    · exact Int.mul_le_mul b b g (by omega)
    · have := Int.mul_le_mul (a := -S) (b := -S) (c := U) (d := U) (by omega) (by omega) (by omega) (by omega)
      rwa [Int.neg_mul_neg] at this
  have e : rk (fmul oneW oneW) = rk oneW := by decide +kernel
  exact ⟨F64_fmul _ _, fin_mid _ _ _ l r (by decide +kernel) (by decide +kernel), l, by omega⟩

theorem int_btw (n : Int) (h1 : -1100 ≤ n) (h2 : n ≤ 1100) : Btw (floatOfInt .f64 (-1100)) (floatOfInt .f64 n) (floatOfInt .f64 1100) := by
  obtain ⟨a, b, c, _⟩ := int_float n (by omega) (by omega)
  obtain ⟨a1, b1, c1, _⟩ := int_float (-1100) (by decide) (by decide)
  obtain ⟨a2, b2, c2, _⟩ := int_float 1100 (by decide) (by decide)
  have hU := U1_pos
  have hU : 0 ≤ (U1 : Int) := by omega
  exact ⟨c, b, SV_le.1 (by rw [a, a1]; exact Int.mul_le_mul_of_nonneg_right h1 hU), SV_le.1 (by rw [a, a2]; exact Int.mul_le_mul_of_nonneg_right h2 hU)⟩

theorem exq_hi : F64 highW ∧ fin highW = true ∧ 0 ≤ rk highW ∧ F64 lowW ∧ fin lowW = true ∧ 0 ≤ rk lowW := ⟨⟨by decide⟩, by decide +kernel, by decide +kernel, ⟨by decide⟩, by decide +kernel, by decide +kernel⟩

theorem fln_fin (b : Nat) (hb : F64 b) (fb : fin b = true) (h : 0 < rk b) : fin (fln b) = true := by
  have gb : ng b = false := by
    cases hg : ng b
    · rfl
    · rw [rk_of_neg hg] at h; omega
  have mb : mg b ≠ 0 := fun e => by rw [rk_of_pos gb, e] at h; omega
  have hm : mnt b ≠ 0 := fun e => mb ((mnt_zero b).1 e)
  have hi : mg b ≠ INF := fun e => by unfold fin at fb; rw [e] at fb; simp at fb
  have e : fln b = lnV (lnM b) (lnN b) := by
    unfold fln
    rw [nn_fin b fb, if_neg (by decide), if_neg mb, gb, if_neg (by decide), if_neg hi]
  rw [e]
  obtain ⟨n1, n2⟩ := lnN_bd b fb hm
  have S := lnS_btw _ (lnM_btw b hm)
  have Z := sq_btw _ S
  obtain ⟨u1, _, u2, _, u3, u4⟩ := horn_up oneW _ one_w.w one_w.f Z.w Z.f (by have := Z.l; rw [z0_facts.2.2] at this; exact this) Z.h lnC (by unfold lnC; simp) lnC_up
  have P : Btw 0 (horn lnC (fmul (lnS (lnM b)) (lnS (lnM b)))) (horn lnC oneW) := ⟨u1, u2, by rw [z0_facts.2.2]; exact u3, u4⟩
  have HX : F64 (horn lnC oneW) := ⟨by decide +kernel⟩
  have T : Btw (fmul twoW moneW) (fmul twoW (lnS (lnM b))) (fmul twoW oneW) := by
    have sl := SV_le.2 S.l
    have sh := SV_le.2 S.h
    have t0 : 0 ≤ SV twoW := by decide +kernel
    have l : rk (fmul twoW moneW) ≤ rk (fmul twoW (lnS (lnM b))) := by
      rw [(rk_fmul twoW moneW two_w.w ⟨by decide⟩ two_w.f (by decide +kernel)).1, (rk_fmul twoW _ two_w.w S.w two_w.f S.f).1]
      exact rz_mono _ (by decide) (Int.mul_le_mul_of_nonneg_left sl t0)
    have r : rk (fmul twoW (lnS (lnM b))) ≤ rk (fmul twoW oneW) := by
      rw [(rk_fmul twoW oneW two_w.w one_w.w two_w.f one_w.f).1, (rk_fmul twoW _ two_w.w S.w two_w.f S.f).1]
      exact rz_mono _ (by decide) (Int.mul_le_mul_of_nonneg_left sh t0)
    exact ⟨F64_fmul _ _, fin_mid _ _ _ l r (by decide +kernel) (by decide +kernel), l, r⟩
  have Q := T.mul P (F64_fmul _ _) (F64_fmul _ _) HX (by decide +kernel) (by decide +kernel) (by decide +kernel) (by decide +kernel) (by decide +kernel) (by decide +kernel) (by decide +kernel)
  have I := int_btw (lnN b) n1 n2
  obtain ⟨hw, hf, h0, lw, lf, l0⟩ := exq_hi
  have i1 : F64 (floatOfInt .f64 (-1100)) := ⟨by decide +kernel⟩
  have i2 : F64 (floatOfInt .f64 1100) := ⟨by decide +kernel⟩
  have J : Btw (fmul (floatOfInt .f64 (-1100)) highW) (fmul (floatOfInt .f64 (lnN b)) highW) (fmul (floatOfInt .f64 1100) highW) := by
    have l := fmul_mono _ _ highW i1 I.w hw (by decide +kernel) I.f hf I.l h0
    have r := fmul_mono _ _ highW I.w i2 hw I.f (by decide +kernel) hf I.h h0
    exact ⟨F64_fmul _ _, fin_mid _ _ _ l r (by decide +kernel) (by decide +kernel), l, r⟩
  have K : Btw (fmul (floatOfInt .f64 (-1100)) lowW) (fmul (floatOfInt .f64 (lnN b)) lowW) (fmul (floatOfInt .f64 1100) lowW) := by
    have l := fmul_mono _ _ lowW i1 I.w lw (by decide +kernel) I.f lf I.l l0
    have r := fmul_mono _ _ lowW I.w i2 lw I.f (by decide +kernel) lf I.h l0
    exact ⟨F64_fmul _ _, fin_mid _ _ _ l r (by decide +kernel) (by decide +kernel), l, r⟩
  have A := Q.add K (F64_fmul _ _) (F64_fmul _ _) (F64_fmul _ _) (F64_fmul _ _) (by decide +kernel) (by decide +kernel) (by decide +kernel) (by decide +kernel) (by decide +kernel) (by decide +kernel)
  have R := J.add A (F64_fmul _ _) (F64_fmul _ _) (F64_fadd _ _) (F64_fadd _ _) (by decide +kernel) (by decide +kernel) (by decide +kernel) (by decide +kernel) (by decide +kernel) (by decide +kernel)
  exact R.f

-- 1 + r / m
abbrev maxW : Nat := 9218868437227405311
abbrev minW : Nat := 18442240474082181119
/-- The least above -1. -/
abbrev aboW : Nat := 13830554455654793215

end Go.Proofs.Yteikihidblcljaa

/- Plain: what layer 4's functions of bits tell, all NaNs taken for one. No program. -/
namespace Go.Proofs.Yteikihidblcljaa
set_option linter.unusedVariables false

theorem cn_fin_mul (x y : Nat) : cn (fmul x y) = fmul x y := by
  unfold fmul
  cases h : dbl.mul x y with
  | none => exact cn_nan _ nn_NaNc
  | some r => exact cn_of _ (nn_mul h)
theorem cn_fin_div (x y : Nat) : cn (fdiv x y) = fdiv x y := by
  unfold fdiv
  cases h : dbl.div x y with
  | none => exact cn_nan _ nn_NaNc
  | some r => exact cn_of _ (nn_div h)
theorem fdiv_cn (x y : Nat) (hx : F64 x) (hy : F64 y) : fdiv (cn x) (cn y) = fdiv x y := by unfold fdiv; rw [div_cn x y hx hy]

theorem fexp_cn (x : Nat) : fexp (cn x) = fexp x := by
  cases h : nn x
  · rw [cn_of x h]
  · unfold fexp; rw [nn_cn, h, if_pos rfl, if_pos rfl]
theorem F64_fexp (x : Nat) : F64 (fexp x) := by
  unfold fexp scal
  split
  · exact F64_NaNc
  · split
    · exact ⟨by decide⟩
    · split
      · exact ⟨by decide⟩
      · split
        · exact ⟨by decide⟩
        · exact F64_of_lt (Ieee.Format.nearest_lt _ _ _ _)
theorem cn_fexp (x : Nat) : cn (fexp x) = fexp x := by
  unfold fexp scal
  split
  · exact cn_nan _ nn_NaNc
  · split
    · decide +kernel
    · split
      · exact cn_zero
      · split
        · exact cn_zero
        · exact cn_of _ (nearest_nn _ _ _)

theorem fln_cn (x : Nat) : fln (cn x) = fln x := by
  cases h : nn x
  · rw [cn_of x h]
  · unfold fln; rw [nn_cn, h, if_pos rfl, if_pos rfl]
theorem F64_fln (x : Nat) (hx : F64 x) : F64 (fln x) := by
  unfold fln
  split
  · exact F64_NaNc
  · split
    · exact ⟨by decide⟩
    · split
      · exact F64_NaNc
      · split
        · exact hx
        · exact F64_fadd _ _

theorem cn_fln (x : Nat) (hx : F64 x) : cn (fln x) = fln x := by
  unfold fln
  split
  · exact cn_nan _ nn_NaNc
  · rename_i h
    split
    · decide +kernel
    · split
      · exact cn_nan _ nn_NaNc
      · split
        · exact cn_of x (by simpa using h)
        · exact cn_fin_add _ _


end Go.Proofs.Yteikihidblcljaa

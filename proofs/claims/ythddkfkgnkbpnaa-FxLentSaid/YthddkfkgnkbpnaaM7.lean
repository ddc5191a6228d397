/- Put together out of several texts: Md Ri. -/
import Derived.Test.YthddkfkgnkbpnaaM5
import Derived.Test.YthddkfkgnkbpnaaM4

/- Plain: quotients of numbers are whole numbers, rounded; they go with what is divided, against the divisor. No program. -/
namespace Go.Proofs.Ythddkfkgnkbpnaa
set_option linter.unusedVariables false
set_option linter.unusedSimpArgs false

theorem nzb_iff (x : Nat) : nz x = true ↔ x ≠ 0 := nz_iff

/-- More digits of a quotient: the digits ahead, and whether something is left. -/
theorem quot_more (X n j : Nat) (hn : 0 < n) : X * 2 ^ j / n / 2 ^ j = X / n ∧ ((X * 2 ^ j / n % 2 ^ j ≠ 0 ∨ X * 2 ^ j % n ≠ 0) ↔ X % n ≠ 0) := by
  have hp : 0 < 2 ^ j := Nat.pow_pos (by decide)
  have d16 : X * 2 ^ j / n / 2 ^ j = X / n := by
    rw [Nat.div_div_eq_div_mul, Nat.mul_comm n, ← Nat.div_div_eq_div_mul, Nat.mul_div_cancel _ hp]
  refine ⟨d16, ?_⟩
  have a1 := Nat.div_add_mod (X * 2 ^ j) n
  have a2 := Nat.div_add_mod (X * 2 ^ j / n) (2 ^ j)
  have a0 := Nat.div_add_mod X n
  rw [d16] at a2
  generalize X / n = Q at *
  constructor
  · intro h h0
    have a3 : X = n * Q := by omega
    have a4 : X * 2 ^ j = n * (Q * 2 ^ j) := by rw [a3, Nat.mul_assoc]
    rw [a4, Nat.mul_div_cancel_left _ hn, Nat.mul_mod_left, Nat.mul_mod_right] at h
    rcases h with h | h <;> exact h rfl
  · intro h0
    refine Decidable.byContradiction fun hc => ?_
    have b1 : X * 2 ^ j / n % 2 ^ j = 0 := Decidable.byContradiction fun h => hc (.inl h)
    have b2 : X * 2 ^ j % n = 0 := Decidable.byContradiction fun h => hc (.inr h)
    rw [b1, Nat.add_zero] at a2
    rw [b2, Nat.add_zero, ← a2] at a1
    have a3 : X = n * Q := by
      refine Nat.eq_of_mul_eq_mul_right hp ?_
      rw [← a1, Nat.mul_assoc, Nat.mul_comm Q]
    omega

/-- So many digits are always enough. -/
def qK : Nat := 5000
theorem qK_eq : qK = 5000 := rfl
/-- Twice a quotient's digits, and 1 more where something is left. -/
def q2 (A B : Nat) : Nat := 2 * (A * 2 ^ qK / B) + (nz (A * 2 ^ qK % B)).toNat

theorem toNat_le1 (b : Bool) : b.toNat ≤ 1 := by cases b <;> decide

theorem q2_mono {A B A' B' : Nat} (hB : 0 < B) (hB' : 0 < B') (h : A * B' ≤ A' * B) : q2 A B ≤ q2 A' B' := by
  unfold q2
  have hp : 0 < 2 ^ qK := Nat.pow_pos (by decide)
  generalize 2 ^ qK = P at *
  have h2 : A * P * B' ≤ A' * P * B := by
    have := Nat.mul_le_mul_right P h
    calc A * P * B' = A * B' * P := by rw [Nat.mul_right_comm]
      _ ≤ A' * B * P := this
      _ = A' * P * B := by rw [Nat.mul_right_comm]
  generalize A * P = X at *
  generalize A' * P = X' at *
  have a := Nat.div_add_mod X B
  have a' := Nat.div_add_mod X' B'
  have hq : X / B ≤ X' / B' := by
    rw [Nat.le_div_iff_mul_le hB']
    have h3 : X / B * B ≤ X := Nat.div_mul_le_self _ _
    have h4 : X / B * B' * B ≤ X' * B := by
      calc X / B * B' * B = X / B * B * B' := by rw [Nat.mul_right_comm]
        _ ≤ X * B' := Nat.mul_le_mul_right _ h3
        _ ≤ X' * B := h2
    exact Nat.le_of_mul_le_mul_right h4 hB
  have t1 := toNat_le1 (nz (X % B))
  rcases Nat.lt_or_ge (X / B) (X' / B') with hlt | hge
  · omega
  · have he : X / B = X' / B' := by omega
    by_cases hr' : X' % B' = 0
    · have hr : X % B = 0 := by
        refine Decidable.byContradiction fun hc => ?_
        have e1 : X' = B' * (X' / B') := by omega
        rw [he] at a
        generalize X' / B' = Q at *
        have : X' * B < X * B' := by
          rw [e1, ← a, Nat.add_mul]
          have e2 : B' * Q * B = B * Q * B' := by rw [Nat.mul_comm B' Q, Nat.mul_comm B Q, Nat.mul_right_comm]
          rw [e2]
          have := Nat.mul_pos (show 0 < X % B by omega) hB'
          omega
        omega
      rw [he, hr, hr']; exact Nat.le_refl _
    · rw [he, show nz (X' % B') = true from (nzb_iff _).2 hr']
      show 2 * (X' / B') + (nz (X % B)).toNat ≤ 2 * (X' / B') + 1
      omega

theorem VV_lt_big (x : Nat) (h : fin x = true) (hx : F64 x) : VV (mg x) < 2 ^ 2100 := by
  rw [VV_mnt x hx h]
  have h1 := mnt_lt x
  have h2 := exq_bd x h
  calc mnt x * 2 ^ (exq x + 1074).toNat < 2 ^ 53 * 2 ^ (exq x + 1074).toNat := Nat.mul_lt_mul_of_pos_right (by rw [show (2 : Nat) ^ 53 = 9007199254740992 by decide]; exact h1) (Nat.pow_pos (by decide))
    _ = 2 ^ (53 + (exq x + 1074).toNat) := by rw [← Nat.pow_add]
    _ ≤ 2 ^ 2100 := Nat.pow_le_pow_right (by decide) (by omega)

/-- A quotient's size, in the words of sizes. -/
theorem over_q2 (u v : Nat) (hu : F64 u) (hv : F64 v) (fu : fin u = true) (fv : fin v = true) (hm : mnt u ≠ 0) (hn : mnt v ≠ 0) :
    rnd (mnt u * 2 ^ ovK (mnt u) (mnt v) / mnt v) (exq u - ovK (mnt u) (mnt v) - exq v) (nz (mnt u * 2 ^ ovK (mnt u) (mnt v) % mnt v)) = rnd (q2 (VV (mg u)) (VV (mg v))) (-(qK : Int) - 1) false := by
  have eu := exq_bd u fu
  have ev := exq_bd v fv
  have mu := mnt_lt u
  have mv := mnt_lt v
  have hk := qK_eq
  have hpn : 0 < mnt v := by omega
  have bmu : bl (mnt u) ≤ 53 := bl_le (by rw [show (2 : Nat) ^ 53 = 9007199254740992 by decide]; exact mu)
  have bmv : bl (mnt v) ≤ 53 := bl_le (by rw [show (2 : Nat) ^ 53 = 9007199254740992 by decide]; exact mv)
  have b1 := bl_pos hm
  have hov : ovK (mnt u) (mnt v) ≤ 122 := by unfold ovK; omega
  -- digits of the quotient
  have hQ : 54 ≤ bl (mnt u * 2 ^ ovK (mnt u) (mnt v) / mnt v) := by
    have h1 : mnt v < 2 ^ bl (mnt v) := bl_lt _
    have h2 : 2 ^ (bl (mnt u) - 1) ≤ mnt u := le_of_bl (by omega)
    have h3 : 2 ^ 60 ≤ mnt u * 2 ^ ovK (mnt u) (mnt v) / mnt v := by
      rw [Nat.le_div_iff_mul_le hpn]
      calc 2 ^ 60 * mnt v ≤ 2 ^ 60 * 2 ^ bl (mnt v) := Nat.mul_le_mul_left _ (Nat.le_of_lt h1)
        _ = 2 ^ (60 + bl (mnt v)) := by rw [← Nat.pow_add]
        _ ≤ 2 ^ (bl (mnt u) - 1 + ovK (mnt u) (mnt v)) := Nat.pow_le_pow_right (by decide) (by unfold ovK; omega)
        _ = 2 ^ (bl (mnt u) - 1) * 2 ^ ovK (mnt u) (mnt v) := by rw [← Nat.pow_add]
        _ ≤ mnt u * 2 ^ ovK (mnt u) (mnt v) := Nat.mul_le_mul_right _ h2
    refine Nat.le_of_not_lt fun hc => ?_
    have h4 := bl_lt (mnt u * 2 ^ ovK (mnt u) (mnt v) / mnt v)
    have h5 : 2 ^ bl (mnt u * 2 ^ ovK (mnt u) (mnt v) / mnt v) ≤ 2 ^ 60 := Nat.pow_le_pow_right (by decide) (by omega)
    omega
  obtain ⟨j, hj⟩ : ∃ j : Nat, (exq u + 1074).toNat + qK = ovK (mnt u) (mnt v) + j + (exq v + 1074).toNat := ⟨(exq u + 1074).toNat + qK - ovK (mnt u) (mnt v) - (exq v + 1074).toNat, by omega⟩
  have hV : VV (mg u) * 2 ^ qK / VV (mg v) = mnt u * 2 ^ ovK (mnt u) (mnt v) * 2 ^ j / mnt v ∧ nz (VV (mg u) * 2 ^ qK % VV (mg v)) = nz (mnt u * 2 ^ ovK (mnt u) (mnt v) * 2 ^ j % mnt v) := by
    rw [VV_mnt u hu fu, VV_mnt v hv fv, Nat.mul_assoc (mnt u), ← Nat.pow_add, hj, Nat.pow_add, Nat.pow_add, ← Nat.mul_assoc, ← Nat.mul_assoc]
    have hp : 0 < 2 ^ (exq v + 1074).toNat := Nat.pow_pos (by decide)
    rw [Nat.mul_div_mul_right _ _ hp, Nat.mul_mod_mul_right]
    refine ⟨rfl, ?_⟩
    rw [Bool.eq_iff_iff, nzb_iff, nzb_iff]
    constructor
    · intro h h0; exact h (by rw [h0, Nat.zero_mul])
    · intro h h0; rcases Nat.mul_eq_zero.1 h0 with h1 | h1
      · exact h h1
      · omega
  unfold q2
  rw [hV.1, hV.2]
  generalize hX : mnt u * 2 ^ ovK (mnt u) (mnt v) = X at *
  obtain ⟨m1, m2⟩ := quot_more X (mnt v) j hpn
  have s1 := rnd_sticky (X * 2 ^ j / mnt v) j (exq u - ovK (mnt u) (mnt v) - exq v) (nz (X * 2 ^ j % mnt v)) (nz (X % mnt v)) (by rw [m1]; exact hQ) (by rw [nzb_iff, nzb_iff, m2])
  rw [m1] at s1
  rw [← s1]
  have hbig : bl (X / mnt v) ≤ bl (X * 2 ^ j / mnt v) := by
    refine bl_mono ?_
    rw [← m1]; exact Nat.div_le_self _ _
  have hh : (2 * (X * 2 ^ j / mnt v) + (nz (X * 2 ^ j % mnt v)).toNat) / 2 ^ 1 = X * 2 ^ j / mnt v := by
    rw [Nat.pow_one]; have := toNat_le1 (nz (X * 2 ^ j % mnt v)); omega
  have s2 := rnd_sticky (2 * (X * 2 ^ j / mnt v) + (nz (X * 2 ^ j % mnt v)).toNat) 1 (-(qK : Int)) false (nz (X * 2 ^ j % mnt v)) (by rw [hh]; omega) (by
    rw [Nat.pow_one]
    cases hz : nz (X * 2 ^ j % mnt v)
    · simp [Nat.mul_mod_right]
    · simp only [Bool.toNat_true, true_iff]
      left; omega)
  rw [hh] at s2
  have e : -(qK : Int) - ((1 : Nat) : Int) = -(qK : Int) - 1 := by omega
  rw [e] at s2
  rw [s2]
  have eE : exq u - (ovK (mnt u) (mnt v) : Int) - exq v - (j : Int) = -(qK : Int) := by omega
  rw [eE]

/-- A number divided by one above 0. -/
def zq (z : Int) (B : Nat) : Int := if z < 0 then -(q2 z.natAbs B : Int) else q2 z.natAbs B

theorem zq_mono {z z' : Int} {B : Nat} (hB : 0 < B) (h : z ≤ z') : zq z B ≤ zq z' B := by
  unfold zq
  by_cases h1 : z < 0
  · rw [if_pos h1]
    by_cases h2 : z' < 0
    · rw [if_pos h2]
      have := q2_mono (A := z'.natAbs) (A' := z.natAbs) hB hB (Nat.mul_le_mul_right _ (by omega))
      omega
    · rw [if_neg h2]; omega
  · rw [if_neg h1, if_neg (by omega)]
    have := q2_mono (A := z.natAbs) (A' := z'.natAbs) hB hB (Nat.mul_le_mul_right _ (by omega))
    omega
theorem zq_anti {z : Int} {B B' : Nat} (hB : 0 < B) (h : B ≤ B') (hz : 0 ≤ z) : zq z B' ≤ zq z B := by
  unfold zq
  rw [if_neg (by omega), if_neg (by omega)]
  have := q2_mono (A := z.natAbs) (A' := z.natAbs) (B := B') (B' := B) (by omega) hB (Nat.mul_le_mul_left _ h)
  omega

theorem q2_zero (B : Nat) : q2 0 B = 0 := by unfold q2; rw [Nat.zero_mul, Nat.zero_div, Nat.zero_mod]; rfl
theorem zq_sg (s : Bool) (A B : Nat) : zq (sg s A) B = sg s (q2 A B) := by
  have hz := q2_zero B
  unfold zq sg
  cases s
  · simp only [Bool.false_eq_true, if_false]
    rw [if_neg (by omega), Int.natAbs_natCast]
  · simp only [if_true]
    by_cases hA : A = 0
    · subst hA
      rw [if_neg (by decide), show (-((0 : Nat) : Int)).natAbs = 0 from rfl, hz]; rfl
    · rw [if_pos (by omega), show (-(A : Int)).natAbs = A by omega]
theorem rz_sg (e : Int) (he : e ≤ -1074) (s : Bool) (q : Nat) : rz e (sg s q) = if s then -((min (rnd q e false) 9218868437227405312 : Nat) : Int) else ((min (rnd q e false) 9218868437227405312 : Nat) : Int) := by
  have hz := rnd_zero e he
  unfold rz sg
  cases s
  · simp only [Bool.false_eq_true, if_false]
    rw [if_neg (by omega), Int.natAbs_natCast]
  · simp only [if_true]
    by_cases hA : q = 0
    · subst hA
      rw [if_neg (by decide), show (-((0 : Nat) : Int)).natAbs = 0 from rfl, hz]; rfl
    · rw [if_pos (by omega), show (-(q : Int)).natAbs = q by omega]

/-- A quotient of numbers is the quotient, rounded. -/
theorem rk_fdiv (u v : Nat) (hu : F64 u) (hv : F64 v) (fu : fin u = true) (fv : fin v = true) (h0 : 0 < rk v) :
    rk (fdiv u v) = rz (-(qK : Int) - 1) (zq (SV u) (VV (mg v))) ∧ nn (fdiv u v) = false := by
  have gv : ng v = false := by
    cases hg : ng v
    · rfl
    · rw [rk_of_neg hg] at h0; omega
  have mv : mg v ≠ 0 := fun h => by rw [rk_of_pos gv, h] at h0; omega
  have hn : mnt v ≠ 0 := fun h => mv ((mnt_zero v).1 h)
  have hk := qK_eq
  have key : ∃ r, r ≤ 9218868437227405312 ∧ fdiv u v = dbl.word (ng u) r ∧ r = min (rnd (q2 (VV (mg u)) (VV (mg v))) (-(qK : Int) - 1) false) 9218868437227405312 := by
    refine ⟨_, Nat.min_le_right _ _, ?_, rfl⟩
    rw [fdiv_ff u v hu hv fu fv mv (ng u)]
    unfold overN
    have hw := word_sgw u v
    rw [gv, Bool.xor_false] at hw
    rw [hw]
    refine congrArg (fun z => sgw u v + z) ?_
    by_cases hm : mnt u = 0
    · rw [if_pos hm]
      have : VV (mg u) = 0 := by rw [(mnt_zero u).1 hm]; exact VV_zero
      rw [this]
      have z : q2 0 (VV (mg v)) = 0 := by unfold q2; rw [Nat.zero_mul, Nat.zero_div, Nat.zero_mod]; rfl
      rw [z, rnd_zero _ (by omega), mg_0]; rfl
    · rw [if_neg hm]
      have e1 : exr u = exq u := by unfold exr; rw [if_neg hm]
      have e2 : exr v = exq v := by unfold exr; rw [if_neg hn]
      rw [e1, e2, ← over_q2 u v hu hv fu fv hm hn]
      unfold nearM
      rw [if_neg (quot_pos (mnt u) (mnt v) hm hn (mnt_lt u)).2, mg_madeN]
  obtain ⟨r, r1, r2, r3⟩ := key
  obtain ⟨w1, w2, _, _⟩ := rk_word (ng u) r r1
  rw [r2]
  refine ⟨?_, w2⟩
  rw [w1, SV_sg]
  generalize VV (mg u) = A at *
  generalize VV (mg v) = B at *
  rw [zq_sg, rz_sg _ (by omega), r3]

theorem VV_pos_of (v : Nat) (h : 0 < rk v) : 0 < VV (mg v) ∧ SV v = (VV (mg v) : Int) := by
  have gv : ng v = false := by
    cases hg : ng v
    · rfl
    · rw [rk_of_neg hg] at h; omega
  refine ⟨VV_pos (by rw [rk_of_pos gv] at h; omega), ?_⟩
  rw [SV_sg, gv]; rfl

theorem fdiv_mono (u u' v : Nat) (a1 : F64 u) (a2 : F64 u') (a3 : F64 v) (b1 : fin u = true) (b2 : fin u' = true) (b3 : fin v = true) (h : rk u ≤ rk u') (h0 : 0 < rk v) : rk (fdiv u v) ≤ rk (fdiv u' v) := by
  rw [(rk_fdiv u v a1 a3 b1 b3 h0).1, (rk_fdiv u' v a2 a3 b2 b3 h0).1]
  exact rz_mono _ (by rw [qK_eq]; decide) (zq_mono (VV_pos_of v h0).1 (SV_le.2 h))
theorem fdiv_anti (u v v' : Nat) (a1 : F64 u) (a2 : F64 v) (a3 : F64 v') (b1 : fin u = true) (b2 : fin v = true) (b3 : fin v' = true) (hu : 0 ≤ rk u) (h : rk v ≤ rk v') (h0 : 0 < rk v) : rk (fdiv u v') ≤ rk (fdiv u v) := by
  have h0' : 0 < rk v' := by omega
  rw [(rk_fdiv u v a1 a2 b1 b2 h0).1, (rk_fdiv u v' a1 a3 b1 b3 h0').1]
  refine rz_mono _ (by rw [qK_eq]; decide) (zq_anti (VV_pos_of v h0).1 ?_ (SV_nonneg hu))
  have := SV_le.2 h
  have := (VV_pos_of v h0).2
  have := (VV_pos_of v' h0').2
  omega
theorem fdiv_nonneg (u v : Nat) (a1 : F64 u) (a3 : F64 v) (b1 : fin u = true) (b3 : fin v = true) (h : 0 ≤ rk u) (h0 : 0 < rk v) : 0 ≤ rk (fdiv u v) := by
  rw [(rk_fdiv u v a1 a3 b1 b3 h0).1]
  have := rz_mono (z := 0) (-(qK : Int) - 1) (by rw [qK_eq]; decide) (show (0 : Int) ≤ zq (SV u) (VV (mg v)) by
    unfold zq; have := SV_nonneg h; rw [if_neg (by omega)]; omega)
  rwa [rz_zero _ (by rw [qK_eq]; decide)] at this

end Go.Proofs.Ythddkfkgnkbpnaa

/- The walks of the reference's Whole, Int and Floor. -/
namespace Go.Proofs.Ythddkfkgnkbpnaa
open Go.RowKit
set_option linter.unusedSimpArgs false
set_option linter.unusedVariables false

set_option maxHeartbeats 3200000 in
theorem whole_any (n : Int) (h1 : -9223372036854775808 ≤ n) (h2 : n ≤ 9223372036854775807) (w : World) :
    Calls Try.prog 104 #[.int .i64 n] w (NRet (decide (n < 0)) n.natAbs 0 w) := by
  by_cases hn : n < 0
  · rw [show decide (n < 0) = true by simpa using hn]
    obtain ⟨m, hm⟩ : ∃ m : Nat, -(n + 1) = (m : Int) := ⟨(-(n + 1)).toNat, by omega⟩
    obtain ⟨k, hk⟩ : ∃ k : Nat, (m : Int) + 1 = (k : Int) := ⟨m + 1, by omega⟩
    obtain rfl : n.natAbs = k := by omega
    have HD := Hd.mk (digits_any n.natAbs (by omega))
    generalize n.natAbs = K at *
    have c0 : decide (n < 0) = true := by simpa using hn
    have m0 : (0 : Int) ≤ m := by omega
    have m1 : (m : Int) ≤ 9223372036854775807 := by omega
    clear hn
    go_enter Try.func104, Try.ntmps104
    go_wp2_with fail
    refine (HD.out _).mono ?_; rintro en w1 ⟨a2, c2, rfl, hc2, hd2, hb2, hf2⟩
    have hk0 := cellb hb2 w.heap.size (by simp)
    have hz := hb2.size
    simp at hz
    have HB : Hd (Below w.heap.size w w1) := ⟨((Below.refl _ _).alloc (Nat.le_refl _) _).trans (hb2.mono (by simp))⟩
    have HF : Hd (∀ b o v, a2 = some ⟨b, o, v⟩ → w.heap.size < b) := ⟨fun b o v e => by have := hf2 b o v e; simp at this; omega⟩
    have HDd := Hd.mk hd2
    clear hb2 hd2 hc2 hf2
    go_wp2_with fail
    refine bodyPost_ret (v := .agg #[.bool true, .slice a2 (nd K) c2, .int .i64 0]) (by simp [results, Try.results104, go_sem, hk0]) rfl ⟨a2, c2, rfl, ?_, ?_⟩
    · repeat (refine Dgs.setOther ?_ HF.out _ _)
      exact HDd.out
    · (repeat (refine Below.setCell ?_ (by simp) _)); exact HB.out
  · rw [show decide (n < 0) = false by simpa using hn]
    obtain ⟨k, rfl⟩ : ∃ k : Nat, n = (k : Int) := ⟨n.toNat, by omega⟩
    rw [Int.natAbs_natCast]
    have HD := Hd.mk (digits_any k (by omega))
    have m0 : (0 : Int) ≤ k := by omega
    clear hn
    go_enter Try.func104, Try.ntmps104
    go_wp2_with fail
    refine (HD.out _).mono ?_; rintro en w1 ⟨a2, c2, rfl, hc2, hd2, hb2, hf2⟩
    have hk0 := cellb hb2 w.heap.size (by simp)
    have hz := hb2.size
    simp at hz
    have HB : Hd (Below w.heap.size w w1) := ⟨((Below.refl _ _).alloc (Nat.le_refl _) _).trans (hb2.mono (by simp))⟩
    have HF : Hd (∀ b o v, a2 = some ⟨b, o, v⟩ → w.heap.size < b) := ⟨fun b o v e => by have := hf2 b o v e; simp at this; omega⟩
    have HDd := Hd.mk hd2
    clear hb2 hd2 hc2 hf2
    go_wp2_with fail
    refine bodyPost_ret (v := .agg #[.bool false, .slice a2 (nd k) c2, .int .i64 0]) (by simp [results, Try.results104, go_sem, hk0]) rfl ⟨a2, c2, rfl, ?_, ?_⟩
    · repeat (refine Dgs.setOther ?_ HF.out _ _)
      exact HDd.out
    · (repeat (refine Below.setCell ?_ (by simp) _)); exact HB.out

theorem nearM_int (n : Int) : nearM (decide (n < 0)) n.natAbs 0 false = floatOfInt .f64 n := by
  rw [floatOfInt_sg]
  by_cases h : n.natAbs = 0
  · obtain rfl : n = 0 := by omega
    rfl
  · exact nearM_nearest h

theorem nd_64 (n : Int) (h1 : -9223372036854775808 ≤ n) (h2 : n ≤ 9223372036854775807) : nd n.natAbs ≤ 2 := nd_le (by rw [BB_pow, show 2 ^ (32 * 2) = 18446744073709551616 by decide]; omega)

end Go.Proofs.Ythddkfkgnkbpnaa

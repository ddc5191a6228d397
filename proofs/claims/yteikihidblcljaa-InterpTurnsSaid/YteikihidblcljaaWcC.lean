/- Plain: doubling goes through rounding. No program. -/
import Derived.Test.YteikihidblcljaaM13
import Derived.Test.YteikihidblcljaaM4
import Derived.Test.YteikihidblcljaaM5
namespace Go.Proofs.Yteikihidblcljaa
set_option linter.unusedSimpArgs false
set_option linter.unusedVariables false

theorem bl_geW (x : Nat) (h : x ≠ 0) : 2 ^ (bl x - 1) ≤ x := by
  unfold bl; rw [if_neg h, Nat.add_sub_cancel]; exact Nat.log2_self_le h
theorem qX_manyW (a b k : Nat) (ha : a ≠ 0) (hb : b ≠ 0) (hk : 70 + bl b ≤ bl a + k) : 54 ≤ bl (qX a b k) := by
  have h1 : 2 ^ 53 ≤ qX a b k := by
    unfold qX
    rw [Nat.le_div_iff_mul_le (by omega)]
    have h2 : 2 ^ (bl a - 1) * 2 ^ k ≤ a * 2 ^ k := Nat.mul_le_mul_right _ (bl_geW a ha)
    rw [← Nat.pow_add] at h2
    have h3 : 2 ^ 53 * b ≤ 2 ^ 53 * 2 ^ bl b := Nat.mul_le_mul_left _ (Nat.le_of_lt (bl_lt b))
    rw [← Nat.pow_add] at h3
    have h0 := bl_pos ha
    have h4 : 2 ^ (53 + bl b) ≤ 2 ^ (bl a - 1 + k) := Nat.pow_le_pow_right (by decide) (by omega)
    omega
  refine Nat.le_of_not_lt fun hc => ?_
  have h3 := bl_lt (qX a b k)
  have h4 : 2 ^ bl (qX a b k) ≤ 2 ^ 53 := Nat.pow_le_pow_right (by decide) (by omega)
  omega
/-- A quotient by any number of bits. -/
theorem quo_qXW (a : Nat) (e : Int) (b : Nat) (f : Int) (ha : a ≠ 0) (hb : b ≠ 0) (k : Nat) (hk : 70 + bl b ≤ bl a + k) : quo a e b f = madeN false (rnd (qX a b k) (e - f - k) (qS a b k)) := by
  have h1 : 70 + bl b ≤ bl a + ovK a b := by unfold ovK; omega
  obtain ⟨j, hj⟩ : ∃ j, k = ovK a b + j := ⟨k - ovK a b, by unfold ovK; omega⟩
  have hq := qX_manyW a b _ ha hb h1
  have h2 := rnd_qX a b (ovK a b) j (e - f - ovK a b) (by omega) hq
  have hn : qX a b (ovK a b) ≠ 0 := fun h0 => by rw [h0] at hq; simp [bl] at hq
  have e1 : quo a e b f = nearM false (qX a b (ovK a b)) (e - ovK a b - f) (qS a b (ovK a b)) := by
    unfold quo overN qX qS
    rw [if_neg ha]
  rw [e1]
  unfold nearM
  rw [if_neg hn, hj, show e - f - ((ovK a b + j : Nat) : Int) = e - f - ovK a b - j by omega, h2, show e - (ovK a b : Int) - f = e - f - ovK a b by omega]
theorem rh_le2 (d k : Nat) (more : Bool) : d / 2 ^ k ≤ rh d k more ∧ rh d k more ≤ d / 2 ^ k + 1 := by
  unfold rh; split <;> omega
/-- One place higher: the rank is one row higher. -/
theorem rnd_up (d : Nat) (e : Int) (more : Bool) (h : -1074 ≤ (bl d : Int) - 53 + e) : rnd d (e + 1) more = rnd d e more + 4503599627370496 := by
  have l1 : lsb d (e + 1) = lsb d e + 1 := by unfold lsb; omega
  have l2 : -1074 ≤ lsb d e := by unfold lsb; omega
  unfold rnd
  rw [l1, show (lsb d e + 1 + 1074).toNat = (lsb d e + 1074).toNat + 1 by omega, show e + 1 - (lsb d e + 1) = e - lsb d e by omega, show lsb d e + 1 - (e + 1) = lsb d e - e by omega]
  by_cases hc : lsb d e ≤ e
  · rw [if_pos hc, if_pos (by omega)]; omega
  · rw [if_neg hc, if_neg (by omega)]; omega
theorem rnd_row2 (d : Nat) (e : Int) (more : Bool) (h0 : d ≠ 0) (h : -1074 ≤ (bl d : Int) - 53 + e) :
    ((bl d : Int) + e + 1022).toNat * 4503599627370496 ≤ rnd d e more ∧ rnd d e more ≤ ((bl d : Int) + e + 1023).toNat * 4503599627370496 := by
  have c1 : (2 : Nat) ^ 52 = 4503599627370496 := by decide
  have c2 : (2 : Nat) ^ 53 = 9007199254740992 := by decide
  have l1 : lsb d e = bl d - 53 + e := by unfold lsb; omega
  have key : ∃ K, rnd d e more = (lsb d e + 1074).toNat * 4503599627370496 + K ∧ 4503599627370496 ≤ K ∧ K ≤ 9007199254740992 := by
    unfold rnd
    have hb := bl_pos h0
    by_cases hc : lsb d e ≤ e
    · rw [if_pos hc]
      refine ⟨_, rfl, ?_, ?_⟩
      · rw [← c1]
        refine le_of_bl ?_
        rw [bl_shift h0]
        omega
      · have h2 := bl_lt (d * 2 ^ (e - lsb d e).toNat)
        have h3 : 2 ^ bl (d * 2 ^ (e - lsb d e).toNat) ≤ 2 ^ 53 := Nat.pow_le_pow_right (by decide) (by rw [bl_shift h0]; omega)
        omega
    · rw [if_neg hc]
      obtain ⟨r1, r2⟩ := rh_le2 d (lsb d e - e).toNat more
      refine ⟨_, rfl, ?_, ?_⟩
      · refine Nat.le_trans ?_ r1
        rw [Nat.le_div_iff_mul_le (Nat.pow_pos (by decide)), ← c1, ← Nat.pow_add]
        exact le_of_bl (by omega)
      · have h2 : d / 2 ^ (lsb d e - e).toNat < 9007199254740992 := by
          rw [Nat.div_lt_iff_lt_mul (Nat.pow_pos (by decide)), ← c2, ← Nat.pow_add]
          exact Nat.lt_of_lt_of_le (bl_lt d) (Nat.pow_le_pow_right (by decide) (by omega))
        omega
  obtain ⟨K, k1, k2, k3⟩ := key
  rw [k1, l1, show ((bl d : Int) + e + 1022).toNat = ((bl d : Int) - 53 + e + 1074).toNat + 1 by omega, show ((bl d : Int) + e + 1023).toNat = ((bl d : Int) - 53 + e + 1074).toNat + 2 by omega]
  omega

/-- y is twice x: both are noughts, or both lie in full rows. -/
structure Tw (x y : Nat) : Prop where
  fx : F64 x
  fy : F64 y
  way : (mg x = 0 ∧ mg y = 0) ∨ (4503599627370496 ≤ mg x ∧ mg y = mg x + 4503599627370496 ∧ ng y = ng x)
  fin : mg y < 9218868437227405312
/-- A number that is nought, or has a size between 2^(lo-1023) and 2^(hi-1023). -/
structure Rg (x lo hi : Nat) : Prop where
  fx : F64 x
  way : mg x = 0 ∨ (lo * 4503599627370496 ≤ mg x ∧ mg x ≤ hi * 4503599627370496)
theorem Tw.finx {x y : Nat} (t : Tw x y) : Go.Proofs.Yteikihidblcljaa.fin x = true := by
  have := t.fin
  unfold Go.Proofs.Yteikihidblcljaa.fin INF
  rcases t.way with ⟨h, _⟩ | ⟨_, h, _⟩ <;> simp <;> omega
theorem Tw.finy {x y : Nat} (t : Tw x y) : Go.Proofs.Yteikihidblcljaa.fin y = true := by
  have := t.fin
  unfold Go.Proofs.Yteikihidblcljaa.fin INF
  simpa using this
theorem mnt_nm {x : Nat} (h : 4503599627370496 ≤ mg x) : mnt x = 4503599627370496 + mg x % 4503599627370496 ∧ exq x = (mg x / 4503599627370496 : Nat) - 1075 ∧ bl (mnt x) = 53 := by
  have h1 : mnt x = 4503599627370496 + mg x % 4503599627370496 := by unfold mnt; rw [if_neg (by omega)]
  have h2 : 1 ≤ mg x / 4503599627370496 := by rw [Nat.le_div_iff_mul_le (by decide)]; omega
  refine ⟨h1, by unfold exq; rw [if_neg (by omega)]; omega, ?_⟩
  have hm := Nat.mod_lt (mg x) (show 4503599627370496 > 0 by decide)
  refine bl_eq (n := 52) ?_ ?_
  · rw [show (2 : Nat) ^ 52 = 4503599627370496 by decide]; omega
  · rw [show (2 : Nat) ^ (52 + 1) = 9007199254740992 by decide]; omega
theorem Tw.me {x y : Nat} (t : Tw x y) (h : mg x ≠ 0) : mnt y = mnt x ∧ exq y = exq x + 1 ∧ bl (mnt x) = 53 ∧ 4503599627370496 ≤ mg x ∧ ng y = ng x ∧ mg y ≠ 0 := by
  rcases t.way with ⟨h1, _⟩ | ⟨h1, h2, h3⟩
  · exact absurd h1 h
  · obtain ⟨a1, a2, a3⟩ := mnt_nm h1
    obtain ⟨b1, b2, b3⟩ := mnt_nm (x := y) (by omega)
    have e1 : mg y / 4503599627370496 = mg x / 4503599627370496 + 1 := by rw [h2]; omega
    refine ⟨?_, ?_, a3, h1, h3, by omega⟩
    · rw [a1, b1, h2]; omega
    · rw [a2, b2, e1]; omega
theorem Tw.zero {x y : Nat} (t : Tw x y) (h : mg x = 0) : mg y = 0 := by
  rcases t.way with ⟨_, h1⟩ | ⟨h1, _, _⟩
  · exact h1
  · omega
/-- What is rounded a place higher is twice. -/
theorem tw_made {x y : Nat} (fx : F64 x) (fy : F64 y) (hs : ng y = ng x) (d : Nat) (e : Int) (more : Bool) (h0 : d ≠ 0) (hx : mg x = min (rnd d e more) 9218868437227405312) (hy : mg y = min (rnd d (e + 1) more) 9218868437227405312)
    (lo hi : Nat) (h1 : 1 ≤ lo) (hh : hi ≤ 2045) (hl : (lo : Int) ≤ (bl d : Int) + e + 1022) (hu : (bl d : Int) + e + 1023 ≤ hi) : Tw x y ∧ Rg x lo hi ∧ mg x ≠ 0 := by
  obtain ⟨r1, r2⟩ := rnd_row2 d e more h0 (by omega)
  have up := rnd_up d e more (by omega)
  have b3 : lo ≤ ((bl d : Int) + e + 1022).toNat := by omega
  have b4 : ((bl d : Int) + e + 1023).toNat ≤ hi := by omega
  generalize ((bl d : Int) + e + 1022).toNat = p at *
  generalize ((bl d : Int) + e + 1023).toNat = q at *
  rw [up] at hy
  clear hl hu up h0
  generalize rnd d e more = R at *
  have s1 : 4503599627370496 ≤ R := by omega
  have s2 : R ≤ 9209861237972664320 := by omega
  have m1 : mg x = R := by rw [hx]; exact Nat.min_eq_left (by omega)
  have m2 : mg y = R + 4503599627370496 := by rw [hy]; exact Nat.min_eq_left (by omega)
  have a1 : lo * 4503599627370496 ≤ R := Nat.le_trans (Nat.mul_le_mul_right _ b3) r1
  have a2 : R ≤ hi * 4503599627370496 := Nat.le_trans r2 (Nat.mul_le_mul_right _ b4)
  rw [← m1] at a1 a2
  exact ⟨⟨fx, fy, Or.inr ⟨by omega, by omega, hs⟩, by omega⟩, ⟨fx, Or.inr ⟨a1, a2⟩⟩, by omega⟩

theorem SV_mg0' (x : Nat) (h : mg x = 0) : SV x = 0 := by rw [SV_sg, h, VV_zero]; unfold sg; split <;> rfl
theorem Tw.mg_ne {x y : Nat} (t : Tw x y) (h : mg y ≠ 0) : mg x ≠ 0 := fun e => h (t.zero e)
theorem mg_sgw (u v r : Nat) (h : r ≤ 9218868437227405312) : mg (sgw u v + r) = r ∧ ng (sgw u v + r) = (ng u ^^ ng v) := by
  rw [← word_sgw]; exact (rk_word _ _ h).2.2
theorem Rg.exq {x lo hi : Nat} (r : Rg x lo hi) (h1 : 1 ≤ lo) (h : mg x ≠ 0) : (lo : Int) - 1075 ≤ exq x ∧ exq x ≤ (hi : Int) - 1075 ∧ bl (mnt x) = 53 ∧ mnt x ≠ 0 := by
  rcases r.way with h0 | ⟨a, b⟩
  · exact absurd h0 h
  · obtain ⟨_, e2, e3⟩ := mnt_nm (x := x) (by omega)
    have h2 : lo ≤ mg x / 4503599627370496 := by rw [Nat.le_div_iff_mul_le (by decide)]; exact a
    have h3 : mg x / 4503599627370496 ≤ hi := Nat.div_le_of_le_mul (by rw [Nat.mul_comm]; exact b)
    exact ⟨by omega, by omega, e3, fun e => h ((mnt_zero x).1 e)⟩
theorem Rg.mono {x lo hi lo' hi' : Nat} (r : Rg x lo hi) (h : lo' ≤ lo) (h' : hi ≤ hi') : Rg x lo' hi' :=
  ⟨r.fx, r.way.imp id fun ⟨a, b⟩ => ⟨Nat.le_trans (Nat.mul_le_mul_right _ h) a, Nat.le_trans b (Nat.mul_le_mul_right _ h')⟩⟩
theorem Rg.fin {x lo hi : Nat} (r : Rg x lo hi) (h : hi ≤ 2046) : fin x = true := by
  unfold Go.Proofs.Yteikihidblcljaa.fin INF
  rcases r.way with e | ⟨_, b⟩
  · simp [e]
  · have : hi * 4503599627370496 ≤ 2046 * 4503599627370496 := Nat.mul_le_mul_right _ h
    simp; omega
/-- A quotient of two full numbers, by its bits. -/
theorem qX_bd {a b : Nat} (k : Nat) (hk : 1 ≤ k) (a1 : 2 ^ 52 ≤ a) (a2 : a < 2 ^ 53) (b1 : 2 ^ 52 ≤ b) (b2 : b < 2 ^ 53) : qX a b k ≠ 0 ∧ k ≤ bl (qX a b k) ∧ bl (qX a b k) ≤ k + 1 := by
  obtain ⟨j, rfl⟩ : ∃ j, k = j + 1 := ⟨k - 1, by omega⟩
  have q1 : 2 ^ j ≤ qX a b (j + 1) := by
    unfold qX
    rw [Nat.le_div_iff_mul_le (by omega)]
    have h1 : 2 ^ j * b ≤ 2 ^ j * 2 ^ 53 := Nat.mul_le_mul_left _ (Nat.le_of_lt b2)
    have h2 : 2 ^ 52 * 2 ^ (j + 1) ≤ a * 2 ^ (j + 1) := Nat.mul_le_mul_right _ a1
    have h3 : (2 : Nat) ^ j * 2 ^ 53 = 2 ^ 52 * 2 ^ (j + 1) := by rw [Nat.pow_succ 2 j, Nat.mul_comm (2 ^ 52), Nat.mul_assoc]
    omega
  have q2 : qX a b (j + 1) < 2 ^ (j + 2) := by
    unfold qX
    rw [Nat.div_lt_iff_lt_mul (by omega)]
    have h1 : 2 ^ (j + 2) * 2 ^ 52 ≤ 2 ^ (j + 2) * b := Nat.mul_le_mul_left _ b1
    have h2 : a * 2 ^ (j + 1) < 2 ^ 53 * 2 ^ (j + 1) := Nat.mul_lt_mul_of_pos_right a2 (Nat.pow_pos (by decide))
    have h3 : (2 : Nat) ^ 53 * 2 ^ (j + 1) = 2 ^ (j + 2) * 2 ^ 52 := by rw [Nat.pow_succ 2 (j + 1), Nat.mul_comm (2 ^ 53), Nat.mul_assoc]
    omega
  have hp := Nat.pow_pos (n := j) (show 0 < 2 by decide)
  refine ⟨by omega, ?_, bl_le q2⟩
  refine Nat.le_of_not_lt fun hc => ?_
  have h1 := bl_lt (qX a b (j + 1))
  have h2 : 2 ^ bl (qX a b (j + 1)) ≤ 2 ^ j := Nat.pow_le_pow_right (by decide) (by omega)
  omega
theorem fdiv_bits (k : Nat) (hk : 200 ≤ k) {u v : Nat} (hu : F64 u) (hv : F64 v) (fu : fin u = true) (fv : fin v = true) (bu : bl (mnt u) = 53) (bv : bl (mnt v) = 53) :
    mg (fdiv u v) = min (rnd (qX (mnt u) (mnt v) k) (exq u - exq v - k) (qS (mnt u) (mnt v) k)) 9218868437227405312 ∧ ng (fdiv u v) = (ng u ^^ ng v) ∧
    qX (mnt u) (mnt v) k ≠ 0 ∧ k ≤ bl (qX (mnt u) (mnt v) k) ∧ bl (qX (mnt u) (mnt v) k) ≤ k + 1 := by
  have nu : mnt u ≠ 0 := fun e => by rw [e] at bu; simp [bl] at bu
  have nv : mnt v ≠ 0 := fun e => by rw [e] at bv; simp [bl] at bv
  have hz : mg v ≠ 0 := fun e => nv ((mnt_zero v).2 e)
  have e1 : exr u = exq u := by unfold exr; rw [if_neg nu]
  have e2 : exr v = exq v := by unfold exr; rw [if_neg nv]
  have hq : overN false (mnt u) (exr u) (mnt v) (exr v) = madeN false (rnd (qX (mnt u) (mnt v) k) (exq u - exq v - k) (qS (mnt u) (mnt v) k)) := by
    rw [e1, e2]
    exact quo_qXW (mnt u) (exq u) (mnt v) (exq v) nu nv k (by omega)
  have hd := fdiv_ff u v hu hv fu fv hz false
  rw [hq, mg_madeN] at hd
  obtain ⟨m1, m2⟩ := mg_sgw u v (min (rnd (qX (mnt u) (mnt v) k) (exq u - exq v - k) (qS (mnt u) (mnt v) k)) 9218868437227405312) (Nat.min_le_right _ _)
  rw [← hd] at m1 m2
  have a1 : 2 ^ 52 ≤ mnt u := le_of_bl (by omega)
  have a2 : mnt u < 2 ^ 53 := by have := bl_lt (mnt u); rw [bu] at this; exact this
  have b1 : 2 ^ 52 ≤ mnt v := le_of_bl (by omega)
  have b2 : mnt v < 2 ^ 53 := by have := bl_lt (mnt v); rw [bv] at this; exact this
  obtain ⟨q0, q1, q2⟩ := qX_bd k (by omega) a1 a2 b1 b2
  exact ⟨m1, m2, q0, q1, q2⟩
theorem fdiv_zero {u v : Nat} (hu : F64 u) (hv : F64 v) (fu : fin u = true) (fv : fin v = true) (h : mg u = 0) (hz : mg v ≠ 0) : mg (fdiv u v) = 0 := by
  have hd := fdiv_ff u v hu hv fu fv hz false
  rw [(mnt_zero u).2 h] at hd
  have e : overN false 0 (exr u) (mnt v) (exr v) = 0 := by unfold overN; rw [if_pos rfl]
  rw [e, mg_0] at hd
  rw [hd]
  exact (mg_sgw u v 0 (by omega)).1
/-- Twice the numerator. -/
theorem tw_num {u u' v lo hi lo' hi' : Nat} (t : Tw u u') (ru : Rg u lo hi) (rv : Rg v lo' hi') (hz : mg v ≠ 0) (h1 : 1 ≤ lo) (h1' : 1 ≤ lo') (hh' : hi' ≤ 2046) (L H : Nat) (hL1 : 1 ≤ L) (hH1 : H ≤ 2045) (hL : L + hi' ≤ lo + 1022) (hH : hi + 1024 ≤ H + lo') :
    Tw (fdiv u v) (fdiv u' v) ∧ Rg (fdiv u v) L H := by
  have fv := rv.fin hh'
  by_cases h : mg u = 0
  · have a := fdiv_zero t.fx rv.fx t.finx fv h hz
    have b := fdiv_zero t.fy rv.fx t.finy fv (t.zero h) hz
    exact ⟨⟨F64_fdiv _ _, F64_fdiv _ _, Or.inl ⟨a, b⟩, by omega⟩, F64_fdiv _ _, Or.inl a⟩
  · obtain ⟨x1, x2, x3, x4⟩ := ru.exq h1 h
    obtain ⟨y1, y2, y3, y4⟩ := rv.exq h1' hz
    obtain ⟨m1, m2, m3, m4, m5, m6⟩ := t.me h
    obtain ⟨k, hk⟩ : ∃ k, 200 ≤ k := ⟨200, Nat.le_refl _⟩
    obtain ⟨p1, p2, p3, p4, p5⟩ := fdiv_bits k hk t.fx rv.fx t.finx fv x3 y3
    obtain ⟨q1, q2, q3, q4, q5⟩ := fdiv_bits k hk t.fy rv.fx t.finy fv (by rw [m1]; exact x3) y3
    rw [m1, m2] at q1
    have r := tw_made (x := fdiv u v) (y := fdiv u' v) (F64_fdiv _ _) (F64_fdiv _ _) (by rw [p2, q2, m5]) _ _ _ p3 p1 (by rw [q1]; congr 2; omega) L H hL1 hH1 (by omega) (by omega)
    exact ⟨r.1, r.2.1⟩
/-- Twice the denominator: half the quotient. -/
theorem tw_den {c v v' lo hi lo' hi' : Nat} (t : Tw v v') (rc : Rg c lo' hi') (rv : Rg v lo hi) (hc : mg c ≠ 0) (hz : mg v ≠ 0) (h1 : 1 ≤ lo) (h1' : 1 ≤ lo') (hh : hi' ≤ 2046) (L H : Nat) (hL1 : 1 ≤ L) (hH1 : H ≤ 2045) (hL : L + hi + 1 ≤ lo' + 1022) (hH : hi' + 1023 ≤ H + lo) :
    Tw (fdiv c v') (fdiv c v) ∧ Rg (fdiv c v') L H ∧ mg (fdiv c v') ≠ 0 ∧ ng (fdiv c v') = (ng c ^^ ng v) := by
  have fc := rc.fin hh
  obtain ⟨x1, x2, x3, x4⟩ := rc.exq h1' hc
  obtain ⟨y1, y2, y3, y4⟩ := rv.exq h1 hz
  obtain ⟨m1, m2, m3, m4, m5, m6⟩ := t.me hz
  obtain ⟨k, hk⟩ : ∃ k, 200 ≤ k := ⟨200, Nat.le_refl _⟩
  obtain ⟨p1, p2, p3, p4, p5⟩ := fdiv_bits k hk rc.fx t.fy fc t.finy x3 (by rw [m1]; exact y3)
  obtain ⟨q1, q2, q3, q4, q5⟩ := fdiv_bits k hk rc.fx t.fx fc t.finx x3 y3
  rw [m1] at p1 p3 p4 p5
  rw [m2] at p1
  obtain ⟨T, R, hne⟩ := tw_made (x := fdiv c v') (y := fdiv c v) (F64_fdiv _ _) (F64_fdiv _ _) (by rw [p2, q2, m5]) _ _ _ p3 p1 (by rw [q1]; congr 2; omega) L H hL1 hH1 (by omega) (by omega)
  exact ⟨T, R, hne, by rw [p2, m5]⟩
theorem fmul_bits {u v : Nat} (hu : F64 u) (hv : F64 v) (fu : fin u = true) (fv : fin v = true) (h0 : mnt u * mnt v ≠ 0) :
    mg (fmul u v) = min (rnd (mnt u * mnt v) (exq u + exq v) false) 9218868437227405312 ∧ ng (fmul u v) = (ng u ^^ ng v) := by
  have key : fmul u v = dbl.nearest (ng u ^^ ng v) (mnt u * mnt v) (exq u + exq v) := by
    unfold fmul Ieee.Format.mul
    rw [read_fin u hu fu, read_fin v hv fv]
    simp only [Ieee.Datum.product, Option.map_some, Option.getD_some]
    rw [write_num]
  rw [key, nearest_rnd _ _ _ h0]
  exact (rk_word _ _ (Nat.min_le_right _ _)).2.2
theorem fmul_zero0 {u v : Nat} (hu : F64 u) (hv : F64 v) (fu : fin u = true) (fv : fin v = true) (h : mg u = 0) : mg (fmul u v) = 0 := by
  have h1 := (rk_fmul u v hu hv fu fv).1
  rw [SV_mg0' u h, Int.zero_mul, rz_zero _ (by decide)] at h1
  unfold rk at h1
  split at h1 <;> omega
/-- Twice a factor. -/
theorem tw_mul {u u' v lo hi lo' hi' : Nat} (t : Tw u u') (ru : Rg u lo hi) (rv : Rg v lo' hi') (hz : mg v ≠ 0) (h1 : 1 ≤ lo) (h1' : 1 ≤ lo') (hh' : hi' ≤ 2046) (L H : Nat) (hL1 : 1 ≤ L) (hH1 : H ≤ 2045) (hL : L + 1023 ≤ lo + lo') (hH : hi + hi' ≤ H + 1021) :
    Tw (fmul u v) (fmul u' v) ∧ Rg (fmul u v) L H := by
  have fv := rv.fin hh'
  by_cases h : mg u = 0
  · have a := fmul_zero0 t.fx rv.fx t.finx fv h
    have b := fmul_zero0 t.fy rv.fx t.finy fv (t.zero h)
    exact ⟨⟨F64_fmul _ _, F64_fmul _ _, Or.inl ⟨a, b⟩, by omega⟩, F64_fmul _ _, Or.inl a⟩
  · obtain ⟨x1, x2, x3, x4⟩ := ru.exq h1 h
    obtain ⟨y1, y2, y3, y4⟩ := rv.exq h1' hz
    obtain ⟨m1, m2, m3, m4, m5, m6⟩ := t.me h
    have h0 : mnt u * mnt v ≠ 0 := Nat.mul_ne_zero x4 y4
    obtain ⟨p1, p2⟩ := fmul_bits t.fx rv.fx t.finx fv h0
    obtain ⟨q1, q2⟩ := fmul_bits t.fy rv.fx t.finy fv (by rw [m1]; exact h0)
    rw [m1, m2] at q1
    have a1 : 2 ^ 52 ≤ mnt u := le_of_bl (by omega)
    have a2 : mnt u < 2 ^ 53 := by have := bl_lt (mnt u); rw [x3] at this; exact this
    have b1 : 2 ^ 52 ≤ mnt v := le_of_bl (by omega)
    have b2 : mnt v < 2 ^ 53 := by have := bl_lt (mnt v); rw [y3] at this; exact this
    have l1 : bl (mnt u * mnt v) ≤ 106 := bl_le (by
      have := Nat.mul_lt_mul'' a2 b2
      rw [← Nat.pow_add] at this
      exact this)
    have l2 : 105 ≤ bl (mnt u * mnt v) := by
      refine Nat.le_of_not_lt fun hc => ?_
      have g1 := bl_lt (mnt u * mnt v)
      have g2 : 2 ^ bl (mnt u * mnt v) ≤ 2 ^ 104 := Nat.pow_le_pow_right (by decide) (by omega)
      have g3 : 2 ^ 52 * 2 ^ 52 ≤ mnt u * mnt v := Nat.mul_le_mul a1 b1
      rw [← Nat.pow_add] at g3
      omega
    have r := tw_made (x := fmul u v) (y := fmul u' v) (F64_fmul _ _) (F64_fmul _ _) (by rw [p2, q2, m5]) _ _ _ h0 p1 (by rw [q1]; congr 2; omega) L H hL1 hH1 (by omega) (by omega)
    exact ⟨r.1, r.2.1⟩

end Go.Proofs.Yteikihidblcljaa

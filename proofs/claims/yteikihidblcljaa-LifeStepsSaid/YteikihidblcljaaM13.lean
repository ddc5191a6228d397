/- Put together out of several texts: Yb Ya Yc Ye Yd Yf Yh. -/
import Derived.Test.YteikihidblcljaaM4
import Derived.Test.YteikihidblcljaaM6
import Derived.Test.YteikihidblcljaaM1
import Derived.Test.YteikihidblcljaaM3
import Derived.Test.YteikihidblcljaaM9
import Derived.Test.YteikihidblcljaaM10
import Derived.Below
import Derived.OwnWalk
import Derived.Laws.AppendOwn
import Derived.Deep.Onto
import Derived.Deep.QuietTactic
import Derived.BigQuiet
import Derived.IntWalk

/- Plain: the number nearest to a quotient, by sixty bits and one more. -/
namespace Go.Proofs.Yteikihidblcljaa
set_option linter.unusedSimpArgs false
set_option linter.unusedVariables false

def qX (a b k : Nat) : Nat := a * 2 ^ k / b
def qS (a b k : Nat) : Bool := nz (a * 2 ^ k % b)
theorem qX_down (a b k j : Nat) : qX a b (k + j) / 2 ^ j = qX a b k := by
  unfold qX
  rw [Nat.div_div_eq_div_mul, Nat.pow_add, ← Nat.mul_assoc, Nat.mul_div_mul_right _ _ (Nat.pow_pos (by decide))]
theorem qS_down (a b k j : Nat) (hb : 0 < b) : qS a b k = true ↔ (qX a b (k + j) % 2 ^ j ≠ 0 ∨ qS a b (k + j) = true) := by
  unfold qS qX
  rw [nz_iff, nz_iff]
  rw [Nat.pow_add, ← Nat.mul_assoc]
  obtain ⟨N, hN⟩ : ∃ N, a * 2 ^ k = N := ⟨_, rfl⟩
  obtain ⟨T, hT⟩ : ∃ T, 2 ^ j = T := ⟨_, rfl⟩
  have hp : 0 < T := by rw [← hT]; exact Nat.pow_pos (by decide)
  rw [hN, hT]
  clear hN hT
  have e1 := Nat.div_add_mod N b
  have e2 := Nat.div_add_mod (N * T) b
  have e3 := Nat.div_add_mod (N * T / b) T
  have e4 : N * T / b / T = N / b := by rw [Nat.div_div_eq_div_mul, Nat.mul_div_mul_right _ _ hp]
  rw [e4] at e3
  constructor
  · intro h
    refine Decidable.byContradiction fun hc => h ?_
    have c1 : N * T / b % T = 0 := Decidable.byContradiction fun h => hc (Or.inl h)
    have c2 : N * T % b = 0 := Decidable.byContradiction fun h => hc (Or.inr h)
    rw [c1, Nat.add_zero] at e3
    rw [c2, Nat.add_zero, ← e3] at e2
    have e5 : T * (b * (N / b)) = T * N := by rw [Nat.mul_comm T N, ← e2, ← Nat.mul_assoc, ← Nat.mul_assoc, Nat.mul_comm T b]
    have e6 := Nat.eq_of_mul_eq_mul_left hp e5
    omega
  · intro h h0
    rw [h0, Nat.add_zero] at e1
    have c : N * T = b * (N / b * T) := by rw [← Nat.mul_assoc, e1]
    rcases h with h | h
    · apply h
      rw [c, Nat.mul_div_cancel_left _ hb, Nat.mul_mod_left]
    · apply h
      rw [c, Nat.mul_mod_right]
theorem rnd_qX (a b k j : Nat) (e : Int) (hb : 0 < b) (h : 54 ≤ bl (qX a b k)) : rnd (qX a b (k + j)) (e - j) (qS a b (k + j)) = rnd (qX a b k) e (qS a b k) := by
  have := rnd_sticky (qX a b (k + j)) j e (qS a b (k + j)) (qS a b k) (by rw [qX_down]; exact h) (qS_down a b k j hb)
  rw [this, qX_down]

/-- The number nearest to a quotient of two numbers. -/
def quo (z1 : Nat) (e1 : Int) (z2 : Nat) (e2 : Int) : Nat := overN false z1 e1 z2 e2
/-- The bits of a quotient and one more. -/
def quM (P Q : Nat) : Nat := 2 * (P * 2 ^ 60 / (2 * Q)) + (if P * 2 ^ 60 % (2 * Q) = 0 then 0 else 1)
theorem jW_word (m : Nat) (e : Int) (h0 : m ≠ 0) (h : bl m ≤ 64) : jW m e = madeN false (rnd m e false) := by
  have hp := bl_pos h0
  have hm : ¬ (m : Int) = 0 := by omega
  have hd : decide ((m : Int) < 0) = false := by simp
  have hn : ((m : Int)).natAbs = m := by omega
  unfold jW
  rw [if_neg hm, hd, hn, nearest_rnd _ _ _ h0, madeN_word]
  refine congrArg (dbl.word false) ?_
  by_cases h1 : e < -5000
  · have a1 : rnd m e false = 0 := rnd_small (by omega)
    have a2 : rnd m (min (max e (-5000)) 5000) false = 0 := rnd_small (by omega)
    rw [a1, a2]
  · by_cases h2 : 5000 < e
    · have a1 : 9218868437227405312 ≤ rnd m e false := rnd_big (by omega)
      have a2 : 9218868437227405312 ≤ rnd m (min (max e (-5000)) 5000) false := rnd_big (by omega)
      omega
    · rw [show min (max e (-5000)) 5000 = e by omega]
theorem lead_ge {P Q : Nat} (h : bl P = bl Q) (hP : P ≠ 0) : Q < 2 * P := by
  have h1 := bl_lt Q
  have h2 := le_of_bl (x := P) (n := bl P - 1) (by have := bl_pos hP; omega)
  have h3 : 2 ^ bl Q = 2 * 2 ^ (bl P - 1) := by
    have := bl_pos hP
    rw [← h, show bl P = (bl P - 1) + 1 by omega, Nat.pow_succ, Nat.mul_comm]
    congr 2
  omega
theorem quM_pow (P Q T : Nat) (hP : P ≠ 0) (hQ : Q ≠ 0) (l1 : Q < 2 * P) (l2 : P < 2 * Q) (h0 : 0 < T) :
    P * (2 * T) / (2 * Q) = P * T / Q ∧ P * (2 * T) % (2 * Q) = 2 * (P * T % Q) ∧ T < 2 * (P * T / Q) + 2 ∧ P * T / Q < 2 * T := by
  have eP : P * (2 * T) = 2 * (P * T) := by rw [Nat.mul_left_comm]
  refine ⟨by rw [eP, Nat.mul_div_mul_left _ _ (by decide)], by rw [eP, Nat.mul_mod_mul_left], ?_, ?_⟩
  · have h1 := Nat.div_add_mod (P * T) Q
    have h2 := Nat.mod_lt (P * T) (show 0 < Q by omega)
    have h3 : Q * T ≤ 2 * (P * T) := by rw [← Nat.mul_assoc]; exact Nat.mul_le_mul_right _ (by omega)
    have h4 : Q * T < Q * (2 * (P * T / Q) + 2) := by
      rw [Nat.mul_add, Nat.mul_left_comm]
      omega
    exact Nat.lt_of_mul_lt_mul_left h4
  · rw [Nat.div_lt_iff_lt_mul (by omega), Nat.mul_right_comm]
    exact Nat.mul_lt_mul_of_pos_right l2 h0
theorem quM_near (P Q : Nat) (e : Int) (hP : P ≠ 0) (hQ : Q ≠ 0) (hb : bl P = bl Q) : quM P Q ≠ 0 ∧ bl (quM P Q) ≤ 64 ∧ 59 ≤ bl (qX P Q 59) ∧ rnd (quM P Q) (e - 60) false = rnd (qX P Q 59) (e - 59) (qS P Q 59) := by
  obtain ⟨T, hT⟩ : ∃ T : Nat, 2 ^ 59 = T := ⟨_, rfl⟩
  have hT2 : (2 : Nat) ^ 60 = 2 * T := by rw [← hT]
  have h0 : 0 < T := by rw [← hT]; decide
  obtain ⟨hd, hm, h1, h2⟩ := quM_pow P Q T hP hQ (lead_ge hb hP) (lead_ge hb.symm hQ) h0
  have hS : qS P Q 59 = !(P * T % Q == 0) := by unfold qS nz; rw [hT]
  have hX : qX P Q 59 = P * T / Q := by unfold qX; rw [hT]
  have hq : quM P Q = 2 * qX P Q 59 + (if P * T % Q = 0 then 0 else 1) := by
    unfold quM
    rw [hT2, hd, hm, hX]
    by_cases h : P * T % Q = 0
    · rw [if_pos h, if_pos (by omega)]
    · rw [if_neg h, if_neg (by omega)]
  rw [← hX] at h1 h2
  generalize qX P Q 59 = X at *
  have h3 : quM P Q / 2 ^ 1 = X := by rw [hq, Nat.pow_one]; split <;> omega
  have hT9 : T = 576460752303423488 := by rw [← hT]
  have hbl : 59 ≤ bl X := by
    refine Decidable.byContradiction fun hc => ?_
    have h5 := bl_lt X
    have h4 : 2 ^ bl X ≤ 2 ^ 58 := Nat.pow_le_pow_right (by decide) (by omega)
    have h6 : (2 : Nat) ^ 58 = 288230376151711744 := by decide
    omega
  refine ⟨?_, ?_, hbl, ?_⟩
  · rw [hq]; omega
  · refine bl_le ?_
    have : (2 : Nat) ^ 64 = 18446744073709551616 := by decide
    rw [hq, this]
    split <;> omega
  · have hs := rnd_sticky (quM P Q) 1 (e - 59) false (qS P Q 59) (by rw [h3]; omega) (by
      rw [hS, hq, Nat.pow_one]
      by_cases h : P * T % Q = 0
      · rw [if_pos h, h]
        have e2 : (2 * X + 0) % 2 = 0 := by omega
        rw [e2]; decide
      · rw [if_neg h]
        have e1 : (P * T % Q == 0) = false := by rw [beq_eq_false_iff_ne]; exact h
        have e2 : (2 * X + 1) % 2 = 1 := by omega
        rw [e1, e2]; decide)
    rw [h3] at hs
    rw [← hs]
    refine congrArg (fun x => rnd (quM P Q) x false) ?_
    omega
theorem key_up (z1 z2 d n : Nat) : z1 * 2 ^ (d + n) / z2 = qX (z1 * 2 ^ d) z2 n ∧ nz (z1 * 2 ^ (d + n) % z2) = qS (z1 * 2 ^ d) z2 n := by
  unfold qX qS
  rw [Nat.pow_add, ← Nat.mul_assoc]
  exact ⟨rfl, rfl⟩
theorem key_down (z1 z2 d n : Nat) : z1 * 2 ^ n / z2 = qX z1 (z2 * 2 ^ d) (n + d) ∧ nz (z1 * 2 ^ n % z2) = qS z1 (z2 * 2 ^ d) (n + d) := by
  have hpos : 0 < 2 ^ d := Nat.pow_pos (by decide)
  unfold qX qS
  rw [Nat.pow_add, ← Nat.mul_assoc, Nat.mul_div_mul_right _ _ hpos, Nat.mul_mod_mul_right]
  refine ⟨rfl, ?_⟩
  unfold nz
  by_cases hx : z1 * 2 ^ n % z2 = 0
  · rw [hx, Nat.zero_mul]
  · have : z1 * 2 ^ n % z2 * 2 ^ d ≠ 0 := Nat.mul_ne_zero hx (Nat.ne_of_gt hpos)
    rw [show (z1 * 2 ^ n % z2 == 0) = false by rw [beq_eq_false_iff_ne]; exact hx, show (z1 * 2 ^ n % z2 * 2 ^ d == 0) = false by rw [beq_eq_false_iff_ne]; exact this]
/-- How many digits more the reference takes. -/
theorem key_all (z1 z2 : Nat) : ∃ j : Nat, z1 * 2 ^ ovK z1 z2 / z2 = qX (z1 * 2 ^ (bl z2 - bl z1)) (z2 * 2 ^ (bl z1 - bl z2)) (59 + j) ∧ nz (z1 * 2 ^ ovK z1 z2 % z2) = qS (z1 * 2 ^ (bl z2 - bl z1)) (z2 * 2 ^ (bl z1 - bl z2)) (59 + j) ∧
    (ovK z1 z2 : Int) = ((bl z2 - bl z1 : Nat) : Int) - ((bl z1 - bl z2 : Nat) : Int) + 59 + j := by
  unfold ovK
  by_cases h : bl z1 ≤ bl z2
  · have k := key_up z1 z2 (bl z2 - bl z1) (59 + 11)
    rw [show bl z1 - bl z2 = 0 by omega, Nat.pow_zero, Nat.mul_one, show 70 + bl z2 - bl z1 = bl z2 - bl z1 + (59 + 11) by omega]
    exact ⟨11, k.1, k.2, by omega⟩
  · have k := key_down z1 z2 (bl z1 - bl z2) (70 + bl z2 - bl z1)
    obtain ⟨j, hj⟩ : ∃ j, 70 + bl z2 - bl z1 + (bl z1 - bl z2) = 59 + j := ⟨70 + bl z2 - bl z1 + (bl z1 - bl z2) - 59, by omega⟩
    rw [hj] at k
    rw [show bl z2 - bl z1 = 0 by omega, Nat.pow_zero, Nat.mul_one]
    exact ⟨j, k.1, k.2, by omega⟩
theorem quo_join (z1 : Nat) (e1 : Int) (z2 : Nat) (e2 : Int) (h1 : z1 ≠ 0) (h2 : z2 ≠ 0) (P Q : Nat) (E : Int) (hP : P = z1 * 2 ^ (bl z2 - bl z1)) (hQ : Q = z2 * 2 ^ (bl z1 - bl z2))
    (hE : E = (e1 - ((bl z2 - bl z1 : Nat) : Int)) - (e2 - ((bl z1 - bl z2 : Nat) : Int))) : jW (quM P Q) (E - 60) = quo z1 e1 z2 e2 := by
  obtain ⟨j, k1, k2, k3⟩ := key_all z1 z2
  have p0 : P ≠ 0 := by rw [hP]; exact Nat.mul_ne_zero h1 (Nat.ne_of_gt (Nat.pow_pos (by decide)))
  have q0 : Q ≠ 0 := by rw [hQ]; exact Nat.mul_ne_zero h2 (Nat.ne_of_gt (Nat.pow_pos (by decide)))
  have hb : bl P = bl Q := by rw [hP, hQ, bl_shift h1, bl_shift h2]; omega
  rw [← hP, ← hQ] at k1 k2
  obtain ⟨m0, m1, m2, m3⟩ := quM_near P Q E p0 q0 hb
  rw [jW_word _ _ m0 m1, m3]
  unfold quo overN nearM
  rw [if_neg h1, k1, k2]
  have ke : e1 - (ovK z1 z2 : Int) - e2 = E - 59 - (j : Int) := by omega
  rw [ke, rnd_qX P Q 59 j (E - 59) (by omega) (by omega), if_neg]
  intro h0
  have h3 := qX_down P Q 59 j
  rw [h0, Nat.zero_div] at h3
  rw [← h3] at m2
  have h4 : bl 0 = 0 := rfl
  omega

end Go.Proofs.Yteikihidblcljaa

/- Pairs that make trees, and walks that do not go back: plain. -/
namespace Go.Proofs.Yteikihidblcljaa
set_option linter.unusedSimpArgs false
set_option linter.unusedVariables false

/-- A pair of currencies and its rate. -/
structure Pr where
  a : Int
  b : Int
  x : Nat
def pr0 : Pr := ⟨0, 0, 0⟩
def sr (p : Pr) (k : Bool) : Int := if k then p.b else p.a
def ds (p : Pr) (k : Bool) : Int := if k then p.a else p.b
theorem sr_not (p : Pr) (k : Bool) : sr p (!k) = ds p k := by cases k <;> rfl
theorem ds_not (p : Pr) (k : Bool) : ds p (!k) = sr p k := by cases k <;> rfl

/-- A way from a to b whose first step does not go to f, and no other one back. -/
def Wk (L : List Pr) : Int → Int → Int → List (Pr × Bool) → Prop
  | _, a, b, [] => a = b
  | f, a, b, s :: l => s.1 ∈ L ∧ sr s.1 s.2 = a ∧ ds s.1 s.2 ≠ f ∧ Wk L a (ds s.1 s.2) b l
/-- Currencies that there are. -/
def Cys (L : List Pr) : Prop := ∀ p, p ∈ L → (1 ≤ p.a ∧ p.a ≤ 8) ∧ (1 ≤ p.b ∧ p.b ≤ 8) ∧ p.a ≠ p.b
theorem Cys.ds {L : List Pr} (h : Cys L) {p : Pr} (hp : p ∈ L) (k : Bool) : 1 ≤ ds p k ∧ ds p k ≤ 8 := by
  obtain ⟨h1, h2, _⟩ := h p hp
  unfold Go.Proofs.Yteikihidblcljaa.ds; cases k
  · exact h2
  · exact h1
theorem Cys.sr {L : List Pr} (h : Cys L) {p : Pr} (hp : p ∈ L) (k : Bool) : 1 ≤ sr p k ∧ sr p k ≤ 8 := by rw [← ds_not]; exact h.ds hp _

theorem Cys.ne0 {L : List Pr} (h : Cys L) {p : Pr} (hp : p ∈ L) {k : Bool} : Go.Proofs.Yteikihidblcljaa.ds p k ≠ 0 := by have := (h.ds hp k).1; omega

theorem Wk.mono {L M : List Pr} (h : ∀ p, p ∈ L → p ∈ M) : ∀ {l : List (Pr × Bool)} {f a b : Int}, Wk L f a b l → Wk M f a b l
  | [], _, _, _, w => w
  | _ :: _, _, _, _, w => ⟨h _ w.1, w.2.1, w.2.2.1, Wk.mono h w.2.2.2⟩
theorem Wk.free {L : List Pr} (h : Cys L) : ∀ {l : List (Pr × Bool)} {f a b : Int}, Wk L f a b l → Wk L 0 a b l
  | [], _, _, _, w => w
  | _ :: _, _, _, _, w => ⟨w.1, w.2.1, h.ne0 w.1, w.2.2.2⟩
/-- Joined by some way. -/
def Jn (L : List Pr) (a b : Int) : Prop := ∃ l, Wk L 0 a b l
theorem Jn.refl (L : List Pr) (a : Int) : Jn L a a := ⟨[], rfl⟩
theorem Jn.step {L : List Pr} (h : Cys L) {p : Pr} (hp : p ∈ L) (k : Bool) {b : Int} (j : Jn L (ds p k) b) : Jn L (sr p k) b := by
  obtain ⟨l, w⟩ := j
  have h0 : Go.Proofs.Yteikihidblcljaa.ds p k ≠ 0 := by have := (h.ds hp k).1; omega
  cases l with
  | nil => exact ⟨[(p, k)], hp, rfl, h0, w⟩
  | cons s r =>
    by_cases hb : Go.Proofs.Yteikihidblcljaa.ds s.1 s.2 = Go.Proofs.Yteikihidblcljaa.sr p k
    · have := w.2.2.2
      rw [hb] at this
      exact ⟨r, this.free h⟩
    · exact ⟨(p, k) :: s :: r, hp, rfl, h0, w.1, w.2.1, hb, w.2.2.2⟩
theorem Wk.jn {L : List Pr} (h : Cys L) {l : List (Pr × Bool)} {f a b : Int} (w : Wk L f a b l) : Jn L a b := ⟨l, w.free h⟩
theorem Wk.trans {L : List Pr} (h : Cys L) {c : Int} : ∀ {l : List (Pr × Bool)} {f a b : Int}, Wk L f a b l → Jn L b c → Jn L a c
  | [], _, _, _, w, j => by rw [show _ = _ from w]; exact j
  | s :: _, _, _, _, w, j => by
    have := Wk.trans h w.2.2.2 j
    rw [← w.2.1]
    exact Jn.step h w.1 s.2 this
theorem Jn.trans {L : List Pr} (h : Cys L) {a b c : Int} (i : Jn L a b) (j : Jn L b c) : Jn L a c := by
  obtain ⟨l, w⟩ := i
  exact w.trans h j
theorem Jn.one {L : List Pr} (h : Cys L) {p : Pr} (hp : p ∈ L) (k : Bool) : Jn L (sr p k) (ds p k) := Jn.step h hp k (Jn.refl _ _)
theorem Wk.symm {L : List Pr} (h : Cys L) : ∀ {l : List (Pr × Bool)} {f a b : Int}, Wk L f a b l → Jn L b a
  | [], _, a, b, w => by rw [show a = b from w]; exact Jn.refl _ _
  | s :: _, _, a, b, w => by
    have h1 := Wk.symm h w.2.2.2
    have h2 := Jn.one h w.1 (!s.2)
    rw [sr_not, ds_not, w.2.1] at h2
    exact h1.trans h h2
theorem Jn.symm {L : List Pr} (h : Cys L) {a b : Int} (i : Jn L a b) : Jn L b a := by
  obtain ⟨l, w⟩ := i
  exact w.symm h
theorem Jn.mono {L M : List Pr} (h : ∀ p, p ∈ L → p ∈ M) {a b : Int} (i : Jn L a b) : Jn M a b := by
  obtain ⟨l, w⟩ := i
  exact ⟨l, w.mono h⟩
theorem Jn.side {L : List Pr} (h : Cys L) {e : Pr} (k : Bool) (j : Jn L (sr e k) (ds e k)) : Jn L e.a e.b := by
  cases k
  · exact j
  · exact Jn.symm h j

/-- There is one way at most. -/
def Uq (L : List Pr) : Prop := ∀ a b f f' l l', Wk L f a b l → Wk L f' a b l' → l = l'
theorem Uq.nil : Uq [] := by
  intro a b f f' l l' w w'
  cases l with
  | nil => cases l' with
    | nil => rfl
    | cons s r => exact absurd w'.1 (by simp)
  | cons s r => exact absurd w.1 (by simp)
theorem Wk.ways {L : List Pr} {e : Pr} (h : Cys L) (u : Uq L) (hj : ¬ Jn L e.a e.b) : ∀ {l : List (Pr × Bool)} {f a b : Int}, Wk (L ++ [e]) f a b l →
    Wk L f a b l ∨ ∃ k l1 l2, l = l1 ++ (e, k) :: l2 ∧ Wk L f a (sr e k) l1 ∧ Wk L (sr e k) (ds e k) b l2
  | [], _, _, _, w => Or.inl w
  | (p, k) :: r, f, a, b, w => by
    obtain ⟨hp, ha, hf, hr⟩ := w
    dsimp only at hp ha hf hr
    rcases List.mem_append.1 hp with hp | hp
    · rcases Wk.ways h u hj hr with i | ⟨j, l1, l2, rfl, i1, i2⟩
      · exact Or.inl ⟨hp, ha, hf, i⟩
      · exact Or.inr ⟨j, (p, k) :: l1, l2, rfl, ⟨hp, ha, hf, i1⟩, i2⟩
    · obtain rfl : p = e := by simpa using hp
      rcases Wk.ways h u hj hr with i | ⟨j, l1, l2, hl, i1, i2⟩
      · refine Or.inr ⟨k, [], r, rfl, ?_, ?_⟩
        · exact ha.symm
        · rw [ha]; exact i
      · exfalso
        by_cases hk : j = k
        · subst hk
          exact hj (Jn.side h j (Jn.symm h (i1.jn h)))
        · have hk' : j = !k := by cases j <;> cases k <;> simp_all
          subst hk'
          rw [sr_not] at i1
          have h1 : l1 = [] := u _ _ _ 0 _ [] i1 rfl
          subst h1
          have h2 := hr
          rw [hl] at h2
          have h3 := h2.2.2.1
          dsimp only at h3
          rw [ds_not] at h3
          exact h3 ha
theorem Uq.snoc {L : List Pr} {e : Pr} (h : Cys L) (u : Uq L) (hj : ¬ Jn L e.a e.b) : Uq (L ++ [e]) := by
  intro a b f f' l l' w w'
  have key : ∀ {f f' : Int} {l' : List (Pr × Bool)} {k : Bool} {l1 l2 l : List (Pr × Bool)}, Wk L f a b l → Wk L f' a (sr e k) l1 → Wk L (sr e k) (ds e k) b l2 → False := by
    intro f f' l' k l1 l2 l w i1 i2
    exact hj (Jn.side h k (Jn.trans h (Jn.symm h (i1.jn h)) (Jn.trans h (w.jn h) (Jn.symm h (i2.jn h)))))
  rcases w.ways h u hj with i | ⟨k, l1, l2, rfl, i1, i2⟩ <;> rcases w'.ways h u hj with j | ⟨k', m1, m2, rfl, j1, j2⟩
  · exact u _ _ _ _ _ _ i j
  · exact (key (l' := []) i j1 j2).elim
  · exact (key (l' := []) j i1 i2).elim
  · by_cases hk : k' = k
    · subst hk
      rw [u _ _ _ _ _ _ i1 j1, u _ _ _ _ _ _ i2 j2]
    · exfalso
      have hk' : k' = !k := by cases k' <;> cases k <;> simp_all
      subst hk'
      rw [sr_not] at j1
      exact hj (Jn.side h k (Jn.trans h (Jn.symm h (i1.jn h)) (j1.jn h)))
theorem Uq.mono {L M : List Pr} (h : ∀ p, p ∈ L → p ∈ M) (u : Uq M) : Uq L := fun a b f f' l l' w w' => u a b f f' l l' (w.mono h) (w'.mono h)
theorem Uq.apart {L : List Pr} {e : Pr} (h : Cys (L ++ [e])) (u : Uq (L ++ [e])) (he : e ∉ L) : ¬ Jn L e.a e.b := by
  rintro ⟨l, w⟩
  have w1 : Wk (L ++ [e]) 0 e.a e.b l := w.mono fun p hp => List.mem_append_left _ hp
  have hm : e ∈ L ++ [e] := by simp
  have w2 : Wk (L ++ [e]) 0 e.a e.b [(e, false)] := ⟨hm, rfl, h.ne0 hm, rfl⟩
  have := u _ _ _ _ _ _ w1 w2
  subst this
  exact he w.1

/-- Pairs that make trees. -/
structure Tree (L : List Pr) : Prop where
  cy : Cys L
  nd : L.Nodup
  uq : Uq L
theorem Tree.nil : Tree [] := ⟨(fun p hp => by cases hp), List.nodup_nil, Uq.nil⟩
theorem Tree.snoc {L : List Pr} {e : Pr} (t : Tree L) (h1 : 1 ≤ e.a ∧ e.a ≤ 8) (h2 : 1 ≤ e.b ∧ e.b ≤ 8) (h3 : e.a ≠ e.b) (hj : ¬ Jn L e.a e.b) : Tree (L ++ [e]) where
  cy := fun p hp => by
    rcases List.mem_append.1 hp with hp | hp
    · exact t.cy p hp
    · obtain rfl : p = e := by simpa using hp
      exact ⟨h1, h2, h3⟩
  nd := by
    rw [List.nodup_append]
    refine ⟨t.nd, by simp, ?_⟩
    intro x hx y hy
    obtain rfl : y = e := by simpa using hy
    rintro rfl
    exact hj (Jn.one t.cy hx false)
  uq := Uq.snoc t.cy t.uq hj
theorem Tree.apart {L : List Pr} {e : Pr} (t : Tree (L ++ [e])) : ¬ Jn L e.a e.b :=
  Uq.apart t.cy t.uq fun he => by
    have := t.nd
    rw [List.nodup_append] at this
    exact this.2.2 e he e (by simp) rfl
theorem Tree.left {L M : List Pr} (t : Tree (L ++ M)) : Tree L :=
  ⟨fun p hp => t.cy p (List.mem_append_left _ hp), (List.nodup_append.1 t.nd).1, t.uq.mono fun p hp => List.mem_append_left _ hp⟩
theorem Tree.perm {L M : List Pr} (h : L.Perm M) (t : Tree L) : Tree M :=
  ⟨fun p hp => t.cy p (h.mem_iff.2 hp), h.nodup_iff.1 t.nd, t.uq.mono fun p hp => h.mem_iff.2 hp⟩

/-- Few whole numbers from 1 to n. -/
theorem few : ∀ (n : Nat) (l : List Int), l.Nodup → (∀ x, x ∈ l → 1 ≤ x ∧ x ≤ n) → l.length ≤ n
  | 0, l, _, h => by
    cases l with
    | nil => simp
    | cons x r => have := h x (by simp); omega
  | n + 1, l, hn, h => by
    have h1 : (l.erase ((n : Int) + 1)).length ≤ n := by
      refine few n _ (hn.erase _) ?_
      intro x hx
      have hx' := (List.Nodup.mem_erase_iff hn).1 hx
      have := h x hx'.2
      have := hx'.1
      omega
    have := List.length_erase (a := ((n : Int) + 1)) (l := l)
    split at this <;> omega
theorem Wk.to {L : List Pr} {v : Int} : ∀ {l : List (Pr × Bool)} {f a b : Int}, Wk L f a b l → v ∈ l.map (fun s => ds s.1 s.2) → ∃ m, m ≠ [] ∧ Wk L f a v m
  | [], _, _, _, _, hv => by simp at hv
  | s :: r, f, a, b, w, hv => by
    rcases List.mem_cons.1 hv with hv | hv
    · exact ⟨[s], by simp, w.1, w.2.1, w.2.2.1, hv.symm⟩
    · obtain ⟨m, h1, h2⟩ := Wk.to w.2.2.2 hv
      exact ⟨s :: m, by simp, w.1, w.2.1, w.2.2.1, h2⟩
theorem Wk.nodup {L : List Pr} (u : Uq L) : ∀ {l : List (Pr × Bool)} {f a b : Int}, Wk L f a b l → (l.map (fun s => ds s.1 s.2)).Nodup
  | [], _, _, _, _ => by simp
  | s :: r, f, a, b, w => by
    rw [List.map_cons, List.nodup_cons]
    refine ⟨fun hv => ?_, Wk.nodup u w.2.2.2⟩
    obtain ⟨m, h1, h2⟩ := w.2.2.2.to hv
    exact h1 (u _ _ _ 0 _ [] h2 rfl)
theorem Wk.mem {L : List Pr} : ∀ {l : List (Pr × Bool)} {f a b : Int}, Wk L f a b l → ∀ s, s ∈ l → s.1 ∈ L
  | [], _, _, _, _, _, hs => by cases hs
  | t :: r, _, _, _, w, s, hs => by
    rcases List.mem_cons.1 hs with rfl | hs
    · exact w.1
    · exact Wk.mem w.2.2.2 s hs
theorem Wk.short {L : List Pr} (t : Tree L) {l : List (Pr × Bool)} {f a b : Int} (w : Wk L f a b l) : l.length ≤ 8 := by
  have h := few 8 (l.map (fun s => ds s.1 s.2)) (w.nodup t.uq) fun x hx => by
    obtain ⟨s, hs, rfl⟩ := List.mem_map.1 hx
    exact t.cy.ds (w.mem s hs) s.2
  simpa using h

/-- All ways from a are shorter than n. -/
def Dep (L : List Pr) (f a : Int) (n : Nat) : Prop := ∀ b l, Wk L f a b l → l.length < n
theorem Dep.top {L : List Pr} (t : Tree L) (f a : Int) : Dep L f a 9 := fun b l w => by have := w.short t; omega
theorem Dep.none {L : List Pr} {f a : Int} (h : Dep L f a 0) : False := by have := h a [] rfl; simp at this
theorem Dep.next {L : List Pr} {f a : Int} {n : Nat} (h : Dep L f a (n + 1)) {p : Pr} (hp : p ∈ L) {k : Bool} (h1 : sr p k = a) (h2 : ds p k ≠ f) : Dep L a (ds p k) n := fun b l w => by
  have := h b ((p, k) :: l) ⟨hp, h1, h2, w⟩
  simp at this; omega
/-- No way begins with one of the first j pairs. -/
def NoW (L : List Pr) (f a b : Int) (j : Nat) : Prop := ∀ i, i < j → i < L.length → ∀ k l, ¬ Wk L f a b ((L.getD i pr0, k) :: l)
theorem NoW.zero (L : List Pr) (f a b : Int) : NoW L f a b 0 := fun i hi => by omega
theorem getD_memP {L : List Pr} {i : Nat} (h : i < L.length) : L.getD i pr0 ∈ L := by
  rw [List.getD_eq_getElem?_getD, List.getElem?_eq_getElem h]; simp
theorem NoW.all {L : List Pr} {f a b : Int} (h : NoW L f a b L.length) (hab : a ≠ b) (l : List (Pr × Bool)) : ¬ Wk L f a b l := by
  intro w
  cases l with
  | nil => exact hab w
  | cons s r =>
    obtain ⟨i, hi, he⟩ := List.getElem_of_mem w.1
    refine h i hi hi s.2 r ?_
    have : L.getD i pr0 = s.1 := by rw [List.getD_eq_getElem?_getD, List.getElem?_eq_getElem hi]; simpa using he
    rw [this]
    exact w
theorem NoW.succ {L : List Pr} {f a b : Int} {j : Nat} (h : NoW L f a b j) (hn : ∀ k l, ¬ Wk L f a b ((L.getD j pr0, k) :: l)) : NoW L f a b (j + 1) := fun i hi hl k l => by
  by_cases e : i = j
  · subst e; exact hn k l
  · exact h i (by omega) hl k l

end Go.Proofs.Yteikihidblcljaa

/- Plain: the products along a way, and what a cross rate is. -/
namespace Go.Proofs.Yteikihidblcljaa
set_option linter.unusedSimpArgs false
set_option linter.unusedVariables false

/-- The product of the mantissas of the steps of one kind, the sum of their exponents. -/
def wM (k : Bool) : List (Pr × Bool) → Nat
  | [] => 1
  | s :: l => if s.2 = k then wM k l * mnt s.1.x else wM k l
def wE (k : Bool) : List (Pr × Bool) → Int
  | [] => 0
  | s :: l => if s.2 = k then wE k l + exq s.1.x else wE k l
/-- Rates that are numbers above 0. -/
structure Rate (x : Nat) : Prop where
  wf : F64 x
  fin : fin x = true
  pos : ng x = false
  nz : mg x ≠ 0
def Pos (L : List Pr) : Prop := ∀ p, p ∈ L → Rate p.x
theorem Rate.mnt {x : Nat} (h : Rate x) : mnt x ≠ 0 ∧ mnt x < 9007199254740992 := by
  have := h.nz
  unfold Go.Proofs.Yteikihidblcljaa.mnt
  split <;> omega
theorem Rate.exq {x : Nat} (h : Rate x) : -1074 ≤ exq x ∧ exq x ≤ 971 := by
  have := h.fin
  unfold Go.Proofs.Yteikihidblcljaa.fin INF at this
  have := of_decide_eq_true this
  unfold Go.Proofs.Yteikihidblcljaa.exq
  split <;> omega
theorem wM_bd {L : List Pr} (hp : Pos L) (k : Bool) : ∀ (l : List (Pr × Bool)), (∀ s, s ∈ l → s.1 ∈ L) → wM k l ≠ 0 ∧ wM k l < 2 ^ (53 * l.length + 1)
  | [], _ => ⟨by simp [wM], by simp [wM]⟩
  | s :: l, h => by
    obtain ⟨i1, i2⟩ := wM_bd hp k l fun t ht => h t (by simp [ht])
    obtain ⟨m1, m2⟩ := (hp s.1 (h s (by simp))).mnt
    have e : 53 * (s :: l).length + 1 = (53 * l.length + 1) + 53 := by simp; omega
    unfold wM
    split
    · refine ⟨Nat.mul_ne_zero i1 m1, ?_⟩
      rw [e, Nat.pow_add, show (2 : Nat) ^ 53 = 9007199254740992 by decide]
      exact Nat.mul_lt_mul'' i2 m2
    · refine ⟨i1, Nat.lt_of_lt_of_le i2 (Nat.pow_le_pow_right (by decide) (by omega))⟩
theorem wE_bd {L : List Pr} (hp : Pos L) (k : Bool) : ∀ (l : List (Pr × Bool)), (∀ s, s ∈ l → s.1 ∈ L) → -(1074 * (l.length : Int)) ≤ wE k l ∧ wE k l ≤ 971 * l.length
  | [], _ => ⟨by simp [wE], by simp [wE]⟩
  | s :: l, h => by
    obtain ⟨i1, i2⟩ := wE_bd hp k l fun t ht => h t (by simp [ht])
    obtain ⟨m1, m2⟩ := (hp s.1 (h s (by simp))).exq
    unfold wE
    simp only [List.length_cons]
    split <;> omega
theorem w_drop (k : Bool) (l : List (Pr × Bool)) (j : Nat) (h : j < l.length) : wM k (l.drop j) = (if l[j].2 = k then wM k (l.drop (j + 1)) * mnt l[j].1.x else wM k (l.drop (j + 1))) ∧ wE k (l.drop j) = (if l[j].2 = k then wE k (l.drop (j + 1)) + exq l[j].1.x else wE k (l.drop (j + 1))) := by
  rw [List.drop_eq_getElem_cons h]
  exact ⟨rfl, rfl⟩

/-- The rate along a way. -/
def crQ (l : List (Pr × Bool)) : Nat := quo (wM false l) (wE false l) (wM true l) (wE true l)
/-- What Cross answers along a way. -/
def crA (l : List (Pr × Bool)) : Nat × Int := if mg (crQ l) = 0 ∨ fin (crQ l) = false then (0, 91) else (crQ l, 0)
theorem quo_F64 (a : Nat) (e : Int) (b : Nat) (f : Int) : F64 (quo a e b f) ∧ nn (quo a e b f) = false ∧ ng (quo a e b f) = false := by
  have h : quo a e b f ≤ 9218868437227405312 := by
    unfold quo overN nearM madeN
    split
    · omega
    · split
      · omega
      · simp only [Bool.false_eq_true, if_false]; exact Nat.min_le_right _ _
  refine ⟨⟨by omega⟩, ?_, ng_small _ (by omega)⟩
  unfold nn INF
  rw [mg_small _ (by omega)]
  simp; omega
theorem crA_F64 (l : List (Pr × Bool)) : F64 (crA l).1 := by
  unfold crA; split
  · exact ⟨by decide⟩
  · exact (quo_F64 _ _ _ _).1

/-- Pairs of which a table is made. -/
structure Good (L : List Pr) : Prop where
  tree : Tree L
  pos : Pos L
theorem Good.nil : Good [] := ⟨Tree.nil, (fun p hp => by cases hp)⟩
theorem Good.snoc {L : List Pr} {e : Pr} (t : Good L) (h1 : 1 ≤ e.a ∧ e.a ≤ 8) (h2 : 1 ≤ e.b ∧ e.b ≤ 8) (h3 : e.a ≠ e.b) (hr : Rate e.x) (hj : ¬ Jn L e.a e.b) : Good (L ++ [e]) :=
  ⟨t.tree.snoc h1 h2 h3 hj, fun p hp => by
    rcases List.mem_append.1 hp with hp | hp
    · exact t.pos p hp
    · obtain rfl : p = e := by simpa using hp
      exact hr⟩

/-- What New answers of pairs, from the one behind those that are taken: what is wrong, and where; no error: all are taken. -/
def okCy (n : Int) : Bool := decide (1 ≤ n ∧ n ≤ 8)
def okRt (x : Nat) : Bool := fin x && !ng x && !(mg x == 0)
open Classical in
noncomputable def newT (l : List Pr) : Nat → Int × Nat
  | 0 => (0, 0)
  | n + 1 =>
    let e := newT l n
    if e.1 ≠ 0 then e
    else
      let p := l.getD n pr0
      if okCy p.a = false ∨ okCy p.b = false then (140, n)
      else if p.a = p.b then (1, n)
      else if okRt p.x = false then (91, n)
      else if Jn (l.take n) p.a p.b then (230, n)
      else (0, 0)
open Classical in
noncomputable def newA (l : List Pr) : Int × Nat := if 28 < l.length then (2, 0) else newT l l.length

theorem rate_of {x : Nat} (hx : F64 x) (h : okRt x = true) : Rate x := by
  unfold okRt at h
  simp only [Bool.and_eq_true, Bool.not_eq_true', beq_eq_false_iff_ne] at h
  exact ⟨hx, h.1.1, h.1.2, h.2⟩
theorem okRt_of {x : Nat} (h : Rate x) : okRt x = true := by
  unfold okRt
  simp only [Bool.and_eq_true, Bool.not_eq_true', beq_eq_false_iff_ne]
  exact ⟨⟨h.fin, h.pos⟩, h.nz⟩
theorem newT_stays (l : List Pr) (n : Nat) (h : (newT l n).1 ≠ 0) : ∀ m, n ≤ m → newT l m = newT l n := by
  intro m hm
  induction m with
  | zero => obtain rfl : n = 0 := by omega
            rfl
  | succ m ih =>
    by_cases e : n = m + 1
    · rw [e]
    · have := ih (by omega)
      rw [newT]
      simp only
      rw [this, if_pos h]
theorem newT_next (l : List Pr) (n : Nat) (h : (newT l n).1 = 0) (c : Int × Nat) (hc : (if okCy (l.getD n pr0).a = false ∨ okCy (l.getD n pr0).b = false then (140, n) else if (l.getD n pr0).a = (l.getD n pr0).b then (1, n) else if okRt (l.getD n pr0).x = false then (91, n) else (230, n)) = c)
    (hb : okCy (l.getD n pr0).a = false ∨ okCy (l.getD n pr0).b = false ∨ (l.getD n pr0).a = (l.getD n pr0).b ∨ okRt (l.getD n pr0).x = false ∨ Jn (l.take n) (l.getD n pr0).a (l.getD n pr0).b) : newT l (n + 1) = c := by
  rw [newT]
  simp only
  rw [if_neg (by omega), ← hc]
  by_cases h1 : okCy (l.getD n pr0).a = false ∨ okCy (l.getD n pr0).b = false
  · rw [if_pos h1, if_pos h1]
  · rw [if_neg h1, if_neg h1]
    by_cases h2 : (l.getD n pr0).a = (l.getD n pr0).b
    · rw [if_pos h2, if_pos h2]
    · rw [if_neg h2, if_neg h2]
      by_cases h3 : okRt (l.getD n pr0).x = false
      · rw [if_pos h3, if_pos h3]
      · rw [if_neg h3, if_neg h3, if_pos]
        rcases hb with hb | hb | hb | hb | hb
        · exact absurd (Or.inl hb) h1
        · exact absurd (Or.inr hb) h1
        · exact absurd hb h2
        · exact absurd hb h3
        · exact hb
theorem newT_ok (l : List Pr) (n : Nat) (h : (newT l n).1 = 0) (h1 : okCy (l.getD n pr0).a = true) (h2 : okCy (l.getD n pr0).b = true) (h3 : (l.getD n pr0).a ≠ (l.getD n pr0).b) (h4 : okRt (l.getD n pr0).x = true) (h5 : ¬ Jn (l.take n) (l.getD n pr0).a (l.getD n pr0).b) : newT l (n + 1) = (0, 0) := by
  rw [newT]
  simp only
  rw [if_neg (by omega), if_neg (by rw [h1, h2]; simp), if_neg h3, if_neg (by rw [h4]; simp), if_neg h5]
theorem take_snocP (l : List Pr) (n : Nat) (h : n < l.length) : l.take (n + 1) = l.take n ++ [l.getD n pr0] := by
  rw [List.take_succ_eq_append_getElem h, List.getD_eq_getElem?_getD, List.getElem?_eq_getElem h]
  simp
/-- As long as nothing is wrong the pairs make trees. -/
theorem newT_good (l : List Pr) (hw : ∀ i, F64 (l.getD i pr0).x) : ∀ n, n ≤ l.length → (newT l n).1 = 0 → Good (l.take n)
  | 0, _, _ => by simpa using Good.nil
  | n + 1, hn, h => by
    rw [newT] at h
    simp only at h
    by_cases h0 : (newT l n).1 ≠ 0
    · rw [if_pos h0] at h; exact absurd h h0
    rw [if_neg h0] at h
    have g := newT_good l hw n (by omega) (by omega)
    by_cases h1 : okCy (l.getD n pr0).a = false ∨ okCy (l.getD n pr0).b = false
    · rw [if_pos h1] at h; simp at h
    rw [if_neg h1] at h
    by_cases h2 : (l.getD n pr0).a = (l.getD n pr0).b
    · rw [if_pos h2] at h; simp at h
    rw [if_neg h2] at h
    by_cases h3 : okRt (l.getD n pr0).x = false
    · rw [if_pos h3] at h; simp at h
    rw [if_neg h3] at h
    by_cases h4 : Jn (l.take n) (l.getD n pr0).a (l.getD n pr0).b
    · rw [if_pos h4] at h; simp at h
    rw [take_snocP l n (by omega)]
    have c1 : okCy (l.getD n pr0).a = true := by
      cases hc : okCy (l.getD n pr0).a
      · exact absurd (Or.inl hc) h1
      · rfl
    have c2 : okCy (l.getD n pr0).b = true := by
      cases hc : okCy (l.getD n pr0).b
      · exact absurd (Or.inr hc) h1
      · rfl
    exact g.snoc (by unfold okCy at c1; simpa using c1) (by unfold okCy at c2; simpa using c2) h2 (rate_of (hw n) (by simpa using h3)) h4

end Go.Proofs.Yteikihidblcljaa

/- Pairs in memory; the walks of fx's number, currency, check. -/
namespace Go.Proofs.Yteikihidblcljaa
open Go.RowKit
set_option linter.unusedSimpArgs false
set_option linter.unusedVariables false

@[go_sem] theorem run_store_floatY (P : Program) (w : World) (a : Addr) (m : Mode) (k : FloatKind) (x : Nat) : (store a (.float k x) m).run P w = stored P w a (.float k x) m := run_store P w a _ m rfl

/-- A slice of pairs. -/
structure Prs (w : World) (ad : Option Addr) (L : List Pr) : Prop where
  cell : ∀ k, k < L.length → ∃ b o, ad = some ⟨b, o, none⟩ ∧ w.cell? ⟨b, o + k * 3, none⟩ = some (.int .i64 (L.getD k pr0).a) ∧ w.cell? ⟨b, o + k * 3 + 1, none⟩ = some (.int .i64 (L.getD k pr0).b) ∧ w.cell? ⟨b, o + k * 3 + 2, none⟩ = some (.float .f64 (L.getD k pr0).x)
  wf : ∀ k, F64 (L.getD k pr0).x
  rg : ∀ k, (-9223372036854775808 ≤ (L.getD k pr0).a ∧ (L.getD k pr0).a ≤ 9223372036854775807) ∧ (-9223372036854775808 ≤ (L.getD k pr0).b ∧ (L.getD k pr0).b ≤ 9223372036854775807)
  len : L.length ≤ 9223372036854775807
theorem Prs.below {w w' : World} {ad : Option Addr} {L : List Pr} (h : Prs w ad L) (hb : Below w.heap.size w w') : Prs w' ad L :=
  ⟨fun k hk => by
    obtain ⟨b, o, h1, h2, h3, h4⟩ := h.cell k hk
    have hl := World.block_lt_of_cell? _ _ h2
    exact ⟨b, o, h1, (hb.cell (p := ⟨b, o + k * 3, none⟩) hl).trans h2, (hb.cell (p := ⟨b, o + k * 3 + 1, none⟩) hl).trans h3, (hb.cell (p := ⟨b, o + k * 3 + 2, none⟩) hl).trans h4⟩, h.wf, h.rg, h.len⟩
theorem Prs.nil (w : World) (ad : Option Addr) : Prs w ad [] := ⟨fun k hk => by simp at hk, fun k => ⟨by simp [pr0]⟩, fun k => by simp [pr0], by simp⟩

/-- Block b is a table of pairs. -/
structure TabIs (w : World) (b : Nat) (L : List Pr) : Prop where
  ex : ∃ ad c, w.cell? ⟨b, 0, none⟩ = some (.slice ad L.length c) ∧ Prs w ad L
theorem TabIs.below {w w' : World} {b : Nat} {L : List Pr} (h : TabIs w b L) (hb : Below w.heap.size w w') : TabIs w' b L := by
  obtain ⟨ad, c, h1, h2⟩ := h.ex
  exact ⟨ad, c, (hb.cell (p := ⟨b, 0, none⟩) (World.block_lt_of_cell? _ _ h1)).trans h1, h2.below hb⟩

theorem okCy_t {n : Int} (h : okCy n = true) : 1 ≤ n ∧ n ≤ 8 := by unfold okCy at h; simpa using h
theorem okCy_f {n : Int} (h : okCy n = false) : ¬ (1 ≤ n ∧ n ≤ 8) := by unfold okCy at h; simpa using h
/-- What check answers. -/
def chkC (a b : Int) : Int := if okCy a = true ∧ okCy b = true then 0 else 140
end Go.Proofs.Yteikihidblcljaa

/- The walks of fx's big: times, double, length, less. -/
namespace Go.Proofs.Yteikihidblcljaa
open Go.RowKit
set_option linter.unusedSimpArgs false
set_option linter.unusedVariables false

/-- The eight words, by value. -/
def ws8 (z : Int) : Array Value := Array.ofFn (n := 8) fun i => .int .u64 (dZ z i)
theorem ws8_size (z : Int) : (ws8 z).size = 8 := by unfold ws8; rw [Array.size_ofFn]
theorem ws8_get (z : Int) (i : Nat) (h : i < 8) : (ws8 z)[i]? = some (.int .u64 (dZ z i)) := by
  unfold ws8; rw [Array.getElem?_ofFn, dif_pos h]
theorem ws8_one (z : Int) : (ws8 z).all (·.oneCell') = true := by
  unfold ws8
  rw [Array.all_eq_true]
  intro i hi
  rw [Array.getElem_ofFn]; rfl
attribute [irreducible] ws8
theorem ws8_cell {z : Int} {i : Nat} {v : Value} (h : (ws8 z)[i]? = some v) : i < 8 ∧ v = .int .u64 (dZ z i) := by
  have hi : i < 8 := by
    refine Decidable.byContradiction fun hc => ?_
    rw [Array.getElem?_eq_none (by rw [ws8_size]; omega)] at h; cases h
  rw [ws8_get _ i hi] at h
  injection h with h
  exact ⟨hi, h.symm⟩
/-- The cells of a product: eight words, the exponent. -/
def bigF (z e : Int) (j : Nat) : Value := if j < 8 then .int .u64 (dZ z j) else .int .i64 e
def bigM (z Z e : Int) (j m : Nat) : Value := if m < j then .int .u64 (dZ Z m) else bigF z e m
theorem bigM_set (z Z e : Int) (j m : Nat) : (if m = j then .int .u64 (dZ Z j) else bigM z Z e j m) = bigM z Z e (j + 1) m := by
  unfold bigM
  by_cases h1 : m = j
  · rw [if_pos h1, if_pos (by omega), h1]
  · rw [if_neg h1]
    by_cases h2 : m < j
    · rw [if_pos h2, if_pos (by omega)]
    · rw [if_neg h2, if_neg (by omega)]
theorem bigM_end (z Z e : Int) (m : Nat) : bigM z Z e 8 m = bigF Z e m := by
  unfold bigM bigF
  by_cases h1 : m < 8
  · rw [if_pos h1, if_pos h1]
  · rw [if_neg h1, if_neg h1, if_neg h1]
theorem bigF_exp (Z e e' : Int) (m : Nat) : (if m = 8 then .int .i64 e' else bigF Z e m) = if m < 9 then bigF Z e' m else bigF Z e m := by
  unfold bigF
  by_cases h1 : m = 8
  · rw [if_pos h1, if_pos (by omega), if_neg (by omega)]
  · rw [if_neg h1]
    by_cases h2 : m < 8
    · rw [if_pos h2, if_pos (by omega), if_pos h2]
    · rw [if_neg h2, if_neg (by omega)]
/-- A step of doubling. -/
theorem dbl_step (z c : Int) (j : Nat) (c0 : 0 ≤ c) (c1 : c ≤ 1) (hc : c * PW j + (z + z) % PW j = z % PW j + z % PW j) :
    ∃ c', 0 ≤ c' ∧ c' ≤ 1 ∧ c' * PW (j + 1) + (z + z) % PW (j + 1) = z % PW (j + 1) + z % PW (j + 1) ∧ bits .or .u64 (IntKind.u64.wrap (dZ z j * 2)) c = dZ (z + z) j ∧ dZ z j / 9223372036854775808 = c' := by
  have hd := dZ_bd z j
  obtain ⟨s1, s2⟩ := addZ_step z z c j hc
  refine ⟨(dZ z j + dZ z j + c) / 18446744073709551616, by omega, by omega, s2, ?_, by omega⟩
  obtain ⟨D, hD⟩ := Int.eq_ofNat_of_zero_le hd.1
  obtain ⟨C, hC⟩ := Int.eq_ofNat_of_zero_le c0
  rw [hD] at s1 hd ⊢
  rw [hC] at s1 c1 ⊢
  have s3 : ((D : Int) + D + C) % 18446744073709551616 = dZ (z + z) j := s1
  rw [← s3, IntKind.wrap_u64]
  have e1 : ((D : Int) * 2 % 18446744073709551616) = ((D * 2 % 18446744073709551616 : Nat) : Int) := by omega
  rw [e1, u64_or_nat _ _ (by omega) (by omega)]
  have e2 := Nat.two_pow_add_eq_or_of_lt (i := 1) (b := C) (by omega) (D % 9223372036854775808)
  have e3 : D * 2 % 18446744073709551616 = 2 ^ 1 * (D % 9223372036854775808) := by omega
  rw [e3, ← e2]
  omega

/-- How many bits: by the highest word that is not 0. -/
theorem len_top (z k : Nat) (h : z < 2 ^ (64 * (k + 1))) (h0 : wN z k ≠ 0) : (64 * (k : Int) + bl (wN z k)) = bl z := by
  have e := near_top z k 0 h
  rw [Nat.pow_zero, Nat.div_one, Nat.add_zero] at e
  rw [e] at h0 ⊢
  rw [bl_div h0]
  omega
theorem len_low (z k : Nat) (h : z < 2 ^ (64 * (k + 1))) (h0 : wN z k = 0) : z < 2 ^ (64 * k) := by
  have e := near_top z k 0 h
  rw [Nat.pow_zero, Nat.div_one, Nat.add_zero, h0] at e
  exact (Nat.div_eq_zero_iff_lt (Nat.pow_pos (by decide))).1 e.symm

end Go.Proofs.Yteikihidblcljaa

/- The walks of fx's big: times, less. -/
namespace Go.Proofs.Yteikihidblcljaa
open Go.RowKit
set_option linter.unusedSimpArgs false
set_option linter.unusedVariables false

theorem mulZ_step (z m c : Int) (j : Nat) (c0 : 0 ≤ c) (c1 : c < 18446744073709551616) (m0 : 0 ≤ m) (hc : c * PW j + (z * m) % PW j = z % PW j * m) :
    (dZ z j * m + c) % 18446744073709551616 = dZ (z * m) j ∧ (dZ z j * m + c) / 18446744073709551616 * PW (j + 1) + (z * m) % PW (j + 1) = z % PW (j + 1) * m := by
  obtain ⟨r0, r1⟩ := modZ_bd (z * m) j
  have hp := PW_pos j
  obtain ⟨S, hS⟩ : ∃ S, dZ z j * m + c = S := ⟨_, rfl⟩
  have e1 : z % PW (j + 1) * m = S * PW j + (z * m) % PW j := by
    rw [modZ_succ, Int.add_mul, ← hc, ← hS, Int.add_mul, Int.mul_right_comm (dZ z j)]
    omega
  have e2 : S = S / 18446744073709551616 * 18446744073709551616 + S % 18446744073709551616 := by omega
  have e3 : S * PW j = S / 18446744073709551616 * PW (j + 1) + S % 18446744073709551616 * PW j := by
    have : PW (j + 1) = PW j * 18446744073709551616 := PW_succ j
    rw [this, Int.mul_left_comm, Int.mul_comm (PW j), ← Int.add_mul]
    congr 1
  have r2 : 0 ≤ S % 18446744073709551616 := Int.emod_nonneg _ (by decide)
  have r3 : S % 18446744073709551616 < 18446744073709551616 := Int.emod_lt_of_pos _ (by decide)
  obtain ⟨R, hR⟩ : ∃ R, S % 18446744073709551616 = R := ⟨_, rfl⟩
  have e4 : (z * m) % PW (j + 1) = (z * m) % PW j + R * PW j := by
    have h1 : (z * m) % PW (j + 1) = (z % PW (j + 1) * m) % PW (j + 1) := by rw [Int.mul_emod (z % PW (j + 1)), Int.emod_emod, ← Int.mul_emod]
    have h2 : PW (j + 1) = PW j * 18446744073709551616 := PW_succ j
    have h3 : (R + 1) * PW j ≤ 18446744073709551616 * PW j := Int.mul_le_mul_of_nonneg_right (by omega) (by omega)
    have h4 : 0 ≤ R * PW j := Int.mul_nonneg (by omega) (by omega)
    rw [h1, e1, e3, hR, Int.add_assoc, Int.mul_comm _ (PW (j + 1)), Int.add_emod, Int.mul_emod_right, Int.zero_add, Int.emod_emod, Int.add_comm]
    refine Int.emod_eq_of_lt (by omega) ?_
    rw [h2, Int.mul_comm (PW j)]
    rw [Int.add_mul] at h3
    omega
  obtain ⟨d1, _⟩ := dZ_of (z * m) j R ((z * m) % PW j) e4 r0 r1
  rw [hS, hR, d1]
  refine ⟨rfl, ?_⟩
  rw [e1, e3, hR, e4]
  omega

/-- A product with a mantissa, a word. -/
theorem times_word (z M c : Nat) (j : Nat) (hM : M < 9007199254740992) (hc1 : c < 18446744073709551616) (hc : (c : Int) * PW j + ((z : Int) * M) % PW j = (z : Int) % PW j * M) :
    ∃ d c' h o l : Nat, dZ (z : Int) j = (d : Int) ∧ d < 18446744073709551616 ∧ d * M / W64 = h ∧ d * M % W64 = l ∧ c' < 18446744073709551616 ∧ (c' : Int) * PW (j + 1) + ((z : Int) * M) % PW (j + 1) = (z : Int) % PW (j + 1) * M ∧
      ((l : Int) + c + 0) % 18446744073709551616 = dZ ((z : Int) * M) j ∧ ((l : Int) + c + 0) / 18446744073709551616 = (o : Int) ∧ IntKind.u64.wrap ((h : Int) + o) = (c' : Int) := by
  obtain ⟨a1, a2⟩ := mulZ_step z M c j (by omega) (by omega) (by omega) hc
  have hb := dZ_bd (z : Int) j
  obtain ⟨d, hd⟩ := Int.eq_ofNat_of_zero_le hb.1
  rw [hd] at a1 a2 hb
  have hdm : d * M ≤ 18446744073709551615 * 9007199254740991 := Nat.mul_le_mul (by omega) (by omega)
  obtain ⟨P, hP⟩ : ∃ P, d * M = P := ⟨_, rfl⟩
  have hPi : (d : Int) * (M : Int) = (P : Int) := by rw [← hP, Int.natCast_mul]
  rw [hPi] at a1 a2
  rw [hP] at hdm
  refine ⟨d, (P + c) / 18446744073709551616, P / W64, (P % W64 + c) / 18446744073709551616, P % W64, hd, by omega, by rw [hP], by rw [hP], by omega, ?_, ?_, ?_, ?_⟩
  · rw [← a2]; congr 1
  · unfold W64; rw [← a1]; omega
  · unfold W64; omega
  · unfold W64; rw [IntKind.wrap_u64]; omega

theorem modW64_lt (n : Nat) : n % W64 < 18446744073709551616 := by unfold W64; exact Nat.mod_lt _ (by decide)

/-- The difference's words of which the first j are there. -/
def dfM (Z : Int) (j m : Nat) : Value := if m < j then .int .u64 (dZ Z m) else .int .u64 0
theorem dfM_set (Z : Int) (j m : Nat) : (if m = j then .int .u64 (dZ Z j) else dfM Z j m) = dfM Z (j + 1) m := by
  unfold dfM
  by_cases h1 : m = j
  · rw [if_pos h1, if_pos (by omega), h1]
  · rw [if_neg h1]
    by_cases h2 : m < j
    · rw [if_pos h2, if_pos (by omega)]
    · rw [if_neg h2, if_neg (by omega)]
theorem less_step (z y c : Int) (j : Nat) (c0 : 0 ≤ c) (c1 : c ≤ 1) (hc : z % PW j + c * PW j = (z - y) % PW j + y % PW j) :
    ∃ c', 0 ≤ c' ∧ c' ≤ 1 ∧ z % PW (j + 1) + c' * PW (j + 1) = (z - y) % PW (j + 1) + y % PW (j + 1) ∧ ∀ w, (callFunc 103 #[.int .u64 (dZ z j), .int .u64 (dZ y j), .int .u64 c]).run Try.prog w = .ok (.value (.tuple #[.int .u64 (dZ (z - y) j), .int .u64 c'])) w := by
  have hz := dZ_bd z j
  have hy := dZ_bd y j
  obtain ⟨s1, s2⟩ := subZ_step z y c j c0 c1 hc
  refine ⟨if dZ z j < dZ y j + c then 1 else 0, by split <;> omega, by split <;> omega, s2, fun w => ?_⟩
  rw [sub64_run (dZ z j) (dZ y j) c hz.1 hy.1 hy.2 c0 c1 w, show (dZ z j + 18446744073709551616 - dZ y j - c) % 18446744073709551616 = dZ (z - y) j from s1]
theorem below8 (z : Nat) (h : z < 2 ^ (64 * 8)) : (z : Int) % PW 8 = z ∧ (z : Int) < PW 8 := by
  have : (z : Int) < PW 8 := by rw [PW_nat]; exact Int.ofNat_lt.2 h
  exact ⟨Int.emod_eq_of_lt (by omega) this, this⟩
theorem less_end (z y : Nat) (c : Int) (hz : z < 2 ^ (64 * 8)) (hy : y < 2 ^ (64 * 8)) (c0 : 0 ≤ c) (c1 : c ≤ 1) (hc : (z : Int) % PW 8 + c * PW 8 = ((z : Int) - y) % PW 8 + (y : Int) % PW 8) : (c != 0) = !decide (y ≤ z) ∧ (y ≤ z → ((z : Int) - y) = ((z - y : Nat) : Int)) := by
  obtain ⟨a1, a2⟩ := below8 z hz
  obtain ⟨b1, b2⟩ := below8 y hy
  rw [a1, b1] at hc
  have hp := PW_pos 8
  have m0 := Int.emod_nonneg ((z : Int) - y) (Int.ne_of_gt hp)
  have m1 := Int.emod_lt_of_pos ((z : Int) - y) hp
  refine ⟨?_, fun h => by omega⟩
  rcases (by omega : c = 0 ∨ c = 1) with rfl | rfl
  · have : y ≤ z := by omega
    rw [decide_eq_true this]; rfl
  · have : ¬ y ≤ z := by omega
    rw [decide_eq_false this]; rfl
end Go.Proofs.Yteikihidblcljaa

/- The walk of fx's quotient. -/
namespace Go.Proofs.Yteikihidblcljaa
open Go.RowKit
set_option linter.unusedSimpArgs false
set_option linter.unusedVariables false

theorem lt_of_bl {z n : Nat} (h : bl z ≤ n) : z < 2 ^ n := Nat.lt_of_lt_of_le (bl_lt z) (Nat.pow_le_pow_right (by decide) h)
theorem small_of_bl {z : Nat} (h : bl z ≤ 64 * 8) : z < 2 ^ (64 * 8) := by
  have := lt_of_bl (n := 64 * 8) h
  exact this
theorem bl_dbl {r Q : Nat} (h : r < 2 * Q) : bl r ≤ bl Q + 1 := by
  refine bl_le ?_
  have := bl_lt Q
  rw [Nat.pow_succ]
  omega
/-- A product's exponent, in memory. -/
def expOf (w : World) (b : Nat) : Int := match w.cell? ⟨b, 8, none⟩ with | some v => intOf v | none => 0
theorem dbl_pow (z k : Nat) : 2 * (z * 2 ^ k) = z * 2 ^ (k + 1) := by rw [Nat.pow_succ, Nat.mul_left_comm, Nat.mul_comm 2 (2 ^ k)]
/-- A step of the division. -/
theorem div_step {P Q m r j : Nat} (h : P * 2 ^ j = 2 * m * Q + r) (hr : r < 2 * Q) (hP : P < 2 * Q) (c : Bool) (hc : c = decide (Q ≤ r)) (Z : Nat) (hZ : Z = if Q ≤ r then r - Q else r) :
    P * 2 ^ (j + 1) = 2 * (m * 2 + (if c then 1 else 0)) * Q + 2 * Z ∧ 2 * Z < 2 * Q ∧ m * 2 + (if c then 1 else 0) < 2 ^ (j + 1) := by
  have e1 : P * 2 ^ (j + 1) = 2 * (P * 2 ^ j) := by rw [Nat.pow_succ, ← Nat.mul_assoc, Nat.mul_comm]
  have e2 : P * 2 ^ (j + 1) = 2 * (m * 2 + (if c then 1 else 0)) * Q + 2 * Z ∧ 2 * Z < 2 * Q := by
    rw [e1, h, hZ, hc]
    have e3 : 2 * (2 * m * Q + r) = 2 * (m * 2) * Q + 2 * r := by rw [Nat.mul_add, Nat.mul_comm m 2, Nat.mul_assoc 2 (2 * m)]
    rw [e3]
    by_cases hq : Q ≤ r
    · rw [if_pos hq, decide_eq_true hq, if_pos rfl]
      refine ⟨?_, by omega⟩
      rw [Nat.mul_add 2 (m * 2) 1, Nat.add_mul]
      omega
    · rw [if_neg hq, decide_eq_false hq, if_neg (by decide)]
      exact ⟨by simp, by omega⟩
  refine ⟨e2.1, e2.2, ?_⟩
  have h1 : 2 * (m * 2 + (if c then 1 else 0)) * Q ≤ P * 2 ^ (j + 1) := by rw [e2.1]; omega
  have h2 : P * 2 ^ (j + 1) < 2 * Q * 2 ^ (j + 1) := Nat.mul_lt_mul_of_pos_right hP (Nat.pow_pos (by decide))
  have h3 : 2 * Q * (m * 2 + (if c then 1 else 0)) < 2 * Q * 2 ^ (j + 1) := by
    rw [Nat.mul_right_comm]; omega
  exact Nat.lt_of_mul_lt_mul_left h3
theorem div_end {P Q m r : Nat} (h : P * 2 ^ 60 = 2 * m * Q + r) (hr : r < 2 * Q) : m * 2 + (if r = 0 then 0 else 1) = quM P Q := by
  have e : 2 * m * Q + r = r + (2 * Q) * m := by rw [Nat.mul_right_comm]; omega
  unfold quM
  rw [h, e, Nat.add_mul_div_left _ _ (by omega), Nat.add_mul_mod_self_left, Nat.div_eq_of_lt hr, Nat.mod_eq_of_lt hr]
  omega
theorem pow_bd {m j : Nat} (h : m < 2 ^ j) (hj : j ≤ 60) : m < 1152921504606846976 := Nat.lt_of_lt_of_le h (Nat.le_trans (Nat.pow_le_pow_right (by decide) hj) (by decide))

end Go.Proofs.Yteikihidblcljaa

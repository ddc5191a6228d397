/- Plain: a pair by a power of 2, turned round. -/
import Derived.Test.YthddkfkgnkbpnaaM19
namespace Go.Proofs.Ythddkfkgnkbpnaa
set_option linter.unusedSimpArgs false
set_option linter.unusedVariables false

theorem bl_ge (x : Nat) (h : x ≠ 0) : 2 ^ (bl x - 1) ≤ x := by
  unfold bl; rw [if_neg h, Nat.add_sub_cancel]; exact Nat.log2_self_le h
theorem qX_many (a b k : Nat) (ha : a ≠ 0) (hb : b ≠ 0) (hk : 70 + bl b ≤ bl a + k) : 54 ≤ bl (qX a b k) := by
  have h1 : 2 ^ 53 ≤ qX a b k := by
    unfold qX
    rw [Nat.le_div_iff_mul_le (by omega)]
    have h2 : 2 ^ (bl a - 1) * 2 ^ k ≤ a * 2 ^ k := Nat.mul_le_mul_right _ (bl_ge a ha)
    rw [← Nat.pow_add] at h2
    have h3 : 2 ^ 53 * b ≤ 2 ^ 53 * 2 ^ bl b := Nat.mul_le_mul_left _ (Nat.le_of_lt (bl_lt b))
    rw [← Nat.pow_add] at h3
    have h0 := bl_pos ha
    have h4 : 2 ^ (53 + bl b) ≤ 2 ^ (bl a - 1 + k) := Nat.pow_le_pow_right (by decide) (by omega)
    omega
  refine Nat.le_of_not_lt fun hc => ?_
  have h3 := bl_lt (qX a b k)
  have h4 : 2 ^ bl (qX a b k) ≤ 2 ^ 53 := Nat.pow_le_pow_right (by decide) (by omega)
  omega
/-- A quotient by any number of bits. -/
theorem quo_qX (a : Nat) (e : Int) (b : Nat) (f : Int) (ha : a ≠ 0) (hb : b ≠ 0) (k : Nat) (hk : 70 + bl b ≤ bl a + k) : quo a e b f = madeN false (rnd (qX a b k) (e - f - k) (qS a b k)) := by
  have h1 : 70 + bl b ≤ bl a + ovK a b := by unfold ovK; omega
  obtain ⟨j, hj⟩ : ∃ j, k = ovK a b + j := ⟨k - ovK a b, by unfold ovK; omega⟩
  have hq := qX_many a b _ ha hb h1
  have h2 := rnd_qX a b (ovK a b) j (e - f - ovK a b) (by omega) hq
  have hn : qX a b (ovK a b) ≠ 0 := fun h0 => by rw [h0] at hq; simp [bl] at hq
  have e1 : quo a e b f = nearM false (qX a b (ovK a b)) (e - ovK a b - f) (qS a b (ovK a b)) := by
    unfold quo overN qX qS
    rw [if_neg ha]
  rw [e1]
  unfold nearM
  rw [if_neg hn, hj, show e - f - ((ovK a b + j : Nat) : Int) = e - f - ovK a b - j by omega, h2, show e - (ovK a b : Int) - f = e - f - ovK a b by omega]
theorem quo_num (a : Nat) (e : Int) (b : Nat) (f : Int) (ha : a ≠ 0) (hb : b ≠ 0) (j : Nat) : quo (a * 2 ^ j) (e - j) b f = quo a e b f := by
  have h2 : a * 2 ^ j ≠ 0 := Nat.mul_ne_zero ha (Nat.pos_iff_ne_zero.1 (Nat.pow_pos (by decide)))
  rw [quo_qX _ _ b f h2 hb (70 + bl b) (by omega), quo_qX a e b f ha hb (j + (70 + bl b)) (by omega)]
  have e1 : qX (a * 2 ^ j) b (70 + bl b) = qX a b (j + (70 + bl b)) := by unfold qX; rw [Nat.pow_add 2 j, Nat.mul_assoc]
  have e2 : qS (a * 2 ^ j) b (70 + bl b) = qS a b (j + (70 + bl b)) := by unfold qS; rw [Nat.pow_add 2 j, Nat.mul_assoc]
  rw [e1, e2, show e - (j : Int) - f - ((70 + bl b : Nat) : Int) = e - f - ((j + (70 + bl b) : Nat) : Int) by omega]
theorem quo_den (a : Nat) (e : Int) (b : Nat) (f : Int) (ha : a ≠ 0) (hb : b ≠ 0) (j : Nat) : quo a e (b * 2 ^ j) (f - j) = quo a e b f := by
  have h2 : b * 2 ^ j ≠ 0 := Nat.mul_ne_zero hb (Nat.pos_iff_ne_zero.1 (Nat.pow_pos (by decide)))
  have hbl := bl_shift hb j
  rw [quo_qX a e _ _ ha h2 (70 + bl b + j) (by omega), quo_qX a e b f ha hb (70 + bl b) (by omega)]
  have hp : 0 < 2 ^ j := Nat.pow_pos (by decide)
  have e1 : qX a (b * 2 ^ j) (70 + bl b + j) = qX a b (70 + bl b) := by
    unfold qX
    rw [Nat.pow_add 2 (70 + bl b), ← Nat.mul_assoc, Nat.mul_div_mul_right _ _ hp]
  have e2 : qS a (b * 2 ^ j) (70 + bl b + j) = qS a b (70 + bl b) := by
    unfold qS
    rw [Nat.pow_add 2 (70 + bl b), ← Nat.mul_assoc, Nat.mul_mod_mul_right]
    have : ∀ x T : Nat, 0 < T → nz (x * T) = nz x := fun x T hT => by
      by_cases h0 : x = 0
      · rw [h0, Nat.zero_mul]
      · rw [nz_t h0, nz_t (Nat.mul_ne_zero h0 (by omega))]
    exact this _ _ hp
  rw [e1, e2, show e - (f - (j : Int)) - ((70 + bl b + j : Nat) : Int) = e - f - ((70 + bl b : Nat) : Int) by omega]
theorem quo_diff (a : Nat) (e e' : Int) (b : Nat) (f f' : Int) (ha : a ≠ 0) (hb : b ≠ 0) (h : e - f = e' - f') : quo a e b f = quo a e' b f' := by
  rw [quo_qX a e b f ha hb (70 + bl b) (by omega), quo_qX a e' b f' ha hb (70 + bl b) (by omega), h]

/-- A pair by a power of 2, and the one turned round. -/
structure Trn (p q : Pr) (k : Int) : Prop where
  a : q.a = p.b
  b : q.b = p.a
  m : mnt p.x = 2 ^ 52
  m' : mnt q.x = 2 ^ 52
  e : exq p.x = k - 52
  e' : exq q.x = -k - 52
theorem Trn.symm {p q : Pr} {k : Int} (t : Trn p q k) : Trn q p (-k) := ⟨t.b.symm, t.a.symm, t.m', t.m, t.e', by rw [t.e]; omega⟩
theorem Trn.sr {p q : Pr} {k : Int} (t : Trn p q k) (b : Bool) : sr q (!b) = sr p b := by
  cases b
  · exact t.b
  · exact t.a
theorem Trn.ds {p q : Pr} {k : Int} (t : Trn p q k) (b : Bool) : ds q (!b) = ds p b := by
  cases b
  · exact t.a
  · exact t.b
open Classical in
/-- A step with the one pair turned. -/
noncomputable def trS (p q : Pr) (s : Pr × Bool) : Pr × Bool := if s.1 = p then (q, !s.2) else s
theorem trS_same (p q : Pr) (k : Bool) : trS p q (p, k) = (q, !k) := by unfold trS; rw [if_pos rfl]
theorem trS_other {p q : Pr} {s : Pr × Bool} (h : s.1 ≠ p) : trS p q s = s := by unfold trS; rw [if_neg h]
theorem trS_wk {R : List Pr} {p q : Pr} {k : Int} (t : Trn p q k) : ∀ {l : List (Pr × Bool)} {f a b : Int}, Wk (R ++ [p]) f a b l → Wk (R ++ [q]) f a b (l.map (trS p q))
  | [], _, _, _, w => w
  | s :: l, f, a, b, w => by
    obtain ⟨w1, w2, w3, w4⟩ := w
    have ih := trS_wk t w4
    rw [List.map_cons]
    obtain ⟨sp, sk⟩ := s
    by_cases h : sp = p
    · subst h
      rw [trS_same]
      refine ⟨by simp, ?_, ?_, ?_⟩
      · show Go.Proofs.Ythddkfkgnkbpnaa.sr q (!sk) = a
        rw [t.sr]; exact w2
      · show Go.Proofs.Ythddkfkgnkbpnaa.ds q (!sk) ≠ f
        rw [t.ds]; exact w3
      · show Wk _ a (Go.Proofs.Ythddkfkgnkbpnaa.ds q (!sk)) b _
        rw [t.ds]; exact ih
    · rw [trS_other (s := (sp, sk)) h]
      refine ⟨?_, w2, w3, ih⟩
      rcases List.mem_append.1 w1 with hm | hm
      · exact List.mem_append_left _ hm
      · exact absurd (by simpa using hm) h
/-- The products along the turned way. -/
theorem trS_prod {R : List Pr} {p q : Pr} {k : Int} (t : Trn p q k) (hp : Pos (R ++ [p])) : ∀ (l : List (Pr × Bool)), (∀ s, s ∈ l → s.1 ∈ R ++ [p]) →
    ∃ (rf rt : Nat) (ef et : Int) (nf nb : Nat) (Kf Kb : Int), rf ≠ 0 ∧ rt ≠ 0 ∧ wM false l = rf * 2 ^ (52 * nf) ∧ wE false l = ef + Kf - 52 * nf ∧ wM true l = rt * 2 ^ (52 * nb) ∧ wE true l = et + Kb - 52 * nb ∧
      wM false (l.map (trS p q)) = rf * 2 ^ (52 * nb) ∧ wE false (l.map (trS p q)) = ef - Kb - 52 * nb ∧ wM true (l.map (trS p q)) = rt * 2 ^ (52 * nf) ∧ wE true (l.map (trS p q)) = et - Kf - 52 * nf
  | [], _ => ⟨1, 1, 0, 0, 0, 0, 0, 0, by decide, by decide, rfl, rfl, rfl, rfl, rfl, rfl, rfl, rfl⟩
  | s :: l, h => by
    obtain ⟨rf, rt, ef, et, nf, nb, Kf, Kb, z1, z2, h1, h2, h3, h4, h5, h6, h7, h8⟩ := trS_prod t hp l fun s hs => h s (by simp [hs])
    obtain ⟨m1, _⟩ := (hp s.1 (h s (by simp))).mnt
    have pw : ∀ r n : Nat, r * 2 ^ (52 * n) * 2 ^ 52 = r * 2 ^ (52 * (n + 1)) := fun r n => by rw [Nat.mul_assoc, ← Nat.pow_add]; rfl
    have pc : ∀ r n m : Nat, r * 2 ^ (52 * n) * m = r * m * 2 ^ (52 * n) := fun r n m => by rw [Nat.mul_right_comm]
    rw [List.map_cons]
    generalize l.map (trS p q) = M at *
    obtain ⟨sp, sk⟩ := s
    dsimp only at m1
    by_cases e : sp = p
    · subst e
      rw [trS_same]
      cases sk
      · refine ⟨rf, rt, ef, et, nf + 1, nb, Kf + k, Kb, z1, z2, ?_, ?_, ?_, ?_, ?_, ?_, ?_, ?_⟩
        · simp only [wM, if_true, h1, t.m]; exact pw _ _
        · simp only [wE, if_true, h2, t.e]; omega
        · simpa [wM] using h3
        · simpa [wE] using h4
        · simpa [wM] using h5
        · simpa [wE] using h6
        · simp only [wM, Bool.not_false, if_true]
          rw [h7, t.m']; exact pw _ _
        · simp only [wE, Bool.not_false, if_true]
          rw [h8, t.e']; omega
      · refine ⟨rf, rt, ef, et, nf, nb + 1, Kf, Kb + k, z1, z2, ?_, ?_, ?_, ?_, ?_, ?_, ?_, ?_⟩
        · simpa [wM] using h1
        · simpa [wE] using h2
        · simp only [wM, if_true, h3, t.m]; exact pw _ _
        · simp only [wE, if_true, h4, t.e]; omega
        · simp only [wM, Bool.not_true, if_true]
          rw [h5, t.m']; exact pw _ _
        · simp only [wE, Bool.not_true, if_true]
          rw [h6, t.e']; omega
        · simpa [wM] using h7
        · simpa [wE] using h8
    · rw [trS_other (s := (sp, sk)) e]
      cases sk
      · refine ⟨rf * mnt sp.x, rt, ef + exq sp.x, et, nf, nb, Kf, Kb, Nat.mul_ne_zero z1 m1, z2, ?_, ?_, ?_, ?_, ?_, ?_, ?_, ?_⟩
        · simp only [wM, if_true, h1]; exact pc _ _ _
        · simp only [wE, if_true, h2]; omega
        · simpa [wM] using h3
        · simpa [wE] using h4
        · simp only [wM, if_true]
          rw [h5]; exact pc _ _ _
        · simp only [wE, if_true]
          rw [h6]; omega
        · simpa [wM] using h7
        · simpa [wE] using h8
      · refine ⟨rf, rt * mnt sp.x, ef, et + exq sp.x, nf, nb, Kf, Kb, z1, Nat.mul_ne_zero z2 m1, ?_, ?_, ?_, ?_, ?_, ?_, ?_, ?_⟩
        · simpa [wM] using h1
        · simpa [wE] using h2
        · simp only [wM, if_true, h3]; exact pc _ _ _
        · simp only [wE, if_true, h4]; omega
        · simpa [wM] using h5
        · simpa [wE] using h6
        · simp only [wM, if_true]
          rw [h7]; exact pc _ _ _
        · simp only [wE, if_true]
          rw [h8]; omega
theorem trS_rate {R : List Pr} {p q : Pr} {k : Int} (t : Trn p q k) (hp : Pos (R ++ [p])) (l : List (Pr × Bool)) (h : ∀ s, s ∈ l → s.1 ∈ R ++ [p]) : crQ (l.map (trS p q)) = crQ l := by
  obtain ⟨rf, rt, ef, et, nf, nb, Kf, Kb, z1, z2, h1, h2, h3, h4, h5, h6, h7, h8⟩ := trS_prod t hp l h
  have nz2 : ∀ r n : Nat, r ≠ 0 → r * 2 ^ n ≠ 0 := fun r n h => Nat.mul_ne_zero h (Nat.pos_iff_ne_zero.1 (Nat.pow_pos (by decide)))
  unfold crQ
  rw [h1, h2, h3, h4, h5, h6, h7, h8]
  rw [show ef + Kf - 52 * (nf : Int) = ef + Kf - ((52 * nf : Nat) : Int) by omega, show et + Kb - 52 * (nb : Int) = et + Kb - ((52 * nb : Nat) : Int) by omega,
    show ef - Kb - 52 * (nb : Int) = ef - Kb - ((52 * nb : Nat) : Int) by omega, show et - Kf - 52 * (nf : Int) = et - Kf - ((52 * nf : Nat) : Int) by omega]
  rw [quo_num _ _ _ _ z1 (nz2 _ _ z2), quo_num _ _ _ _ z1 (nz2 _ _ z2), quo_den _ _ _ _ z1 z2, quo_den _ _ _ _ z1 z2]
  exact quo_diff _ _ _ _ _ _ z1 z2 (by omega)

/-- Trees with the one pair turned. -/
theorem Good.turn {R : List Pr} {p q : Pr} {k : Int} (t : Trn p q k) (hq : Rate q.x) (g : Good (R ++ [p])) : Good (R ++ [q]) := by
  have tl := g.tree.left
  obtain ⟨c1, c2, c3⟩ := g.tree.cy p (by simp)
  have hj := g.tree.apart
  refine Good.snoc ⟨tl, fun x hx => g.pos x (List.mem_append_left _ hx)⟩ (by rw [t.a]; exact c2) (by rw [t.b]; exact c1) (by rw [t.a, t.b]; exact fun e => c3 e.symm) hq ?_
  rw [t.a, t.b]
  exact fun j => hj (Jn.symm tl.cy j)
theorem crsT_turn {R : List Pr} {p q : Pr} {k : Int} (t : Trn p q k) (g : Good (R ++ [p])) (g' : Good (R ++ [q])) (a b : Int) : crsT (R ++ [p]) a b = crsT (R ++ [q]) a b := by
  by_cases hc : chkC a b = 0
  · by_cases hx : ∃ l, Wk (R ++ [p]) 0 a b l
    · obtain ⟨l, w⟩ := hx
      rw [crsT_way g.tree.uq hc w, crsT_way g'.tree.uq hc (trS_wk t w)]
      unfold crA
      rw [trS_rate t g.pos l (Wk.mem w)]
    · rw [crsT_no hc (fun l w => hx ⟨l, w⟩), crsT_no hc (fun l w => hx ⟨_, trS_wk t.symm w⟩)]
  · rw [crsT_bad hc, crsT_bad hc]
open Classical in
/-- Joined goes both ways, and from one to the next. -/
theorem jnT_symm (L : List Pr) (g : Good L) (a b : Int) : (jnT L a b).1 = (jnT L b a).1 := by
  have hs : chkC a b = chkC b a := by unfold chkC; simp only [and_comm]
  unfold jnT
  rw [hs]
  by_cases h : chkC b a ≠ 0
  · rw [if_pos h, if_pos h]
  · rw [if_neg h, if_neg h]
    have : Jn L a b ↔ Jn L b a := ⟨Jn.symm g.tree.cy, Jn.symm g.tree.cy⟩
    exact decide_eq_decide.2 this
theorem jnT_trans (L : List Pr) (g : Good L) {a b c : Int} (ha : 1 ≤ a ∧ a ≤ 8) (hc : 1 ≤ c ∧ c ≤ 8) (h1 : (jnT L a b).1 = true) (h2 : (jnT L b c).1 = true) : (jnT L a c).1 = true := by
  have key : ∀ x y, (jnT L x y).1 = true → Jn L x y := fun x y h => by
    unfold jnT at h
    split at h
    · simp at h
    · simpa using h
  have := Jn.trans g.tree.cy (key _ _ h1) (key _ _ h2)
  unfold jnT
  rw [if_neg (by rw [chkC_ok ha hc]; decide)]
  simpa using this

end Go.Proofs.Ythddkfkgnkbpnaa

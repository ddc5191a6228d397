/- Plain: a table's values doubled: what a place holds is doubled. No program. -/
import Derived.Test.YteikihidblcljaaWfC
import Derived.Test.YteikihidblcljaaM12
namespace Go.Proofs.Yteikihidblcljaa
set_option linter.unusedSimpArgs false
set_option linter.unusedVariables false

/-- Weighted sums doubled. -/
theorem tw_ws {Z : Int} {n : Nat} (hn : 1 ≤ n) (hn2 : n ≤ 2 ^ 51) (hz : Z = 0 ∨ 2 ^ 121 ≤ Z.natAbs) (hu : Z.natAbs ≤ n * Q51 1923) : Tw (overA (Z * (U1 : Int)) false false n) (overA (2 * Z * (U1 : Int)) false false n) := by
  have e1 : (Z * (U1 : Int)).natAbs = Z.natAbs * Q51 1023 := by rw [Int.natAbs_mul, Int.natAbs_natCast, U1_pow]
  rw [Int.mul_assoc]
  refine (tw_over hn 10 1930 (by decide) (by decide) ?_).1
  rcases hz with h | h
  · left; rw [h, Int.zero_mul]
  · right
    rw [e1]
    refine ⟨?_, ?_⟩
    · refine Nat.le_trans (Nat.mul_le_mul_left _ hn2) (Nat.le_trans ?_ (Nat.mul_le_mul_right _ h))
      rw [Q51_pow, Nat.mul_comm, Q51_pow]
      exact Q51_le (by decide)
    · refine Nat.lt_of_le_of_lt (Nat.mul_le_mul_right _ hu) ?_
      rw [Nat.mul_assoc, Q51_mul, Nat.mul_comm]
      exact Nat.mul_lt_mul_of_pos_right (Q51_lt (by decide)) (by omega)
theorem mul_ge {w X : Int} (h : 1 ≤ w) (hX : 0 ≤ X) : X ≤ w * X := by
  have := Int.mul_nonneg (show 0 ≤ w - 1 by omega) hX
  rw [Int.sub_mul, Int.one_mul] at this
  omega
theorem low_pos {w1 w2 w3 w4 A C E B K : Int} (h1 : 1 ≤ w1) (h2 : 0 ≤ w2) (h3 : 0 ≤ w3) (h4 : 1 ≤ w4) (hA : 0 ≤ A) (hC : 0 ≤ C) (hE : 0 ≤ E) (hB : 0 ≤ B) (h : (A = 0 ∧ C = 0 ∧ E = 0 ∧ B = 0) ∨ K ≤ A ∨ K ≤ B) :
    w1 * A + w2 * C + w3 * E + w4 * B = 0 ∨ K ≤ w1 * A + w2 * C + w3 * E + w4 * B := by
  rcases h with ⟨e1, e2, e3, e4⟩ | h | h
  · left; rw [e1, e2, e3, e4]; simp
  · right
    have := mul_ge h1 hA; have := Int.mul_nonneg h2 hC; have := Int.mul_nonneg h3 hE; have := mul_ge h4 hB
    omega
  · right
    have := mul_ge h1 hA; have := Int.mul_nonneg h2 hC; have := Int.mul_nonneg h3 hE; have := mul_ge h4 hB
    omega
/-- The sum of a cubic is nought, or no small number. -/
theorem low_four {w1 w2 w3 w4 A C E B : Int} {K : Nat} (h1 : 1 ≤ w1) (h2 : 0 ≤ w2) (h3 : 0 ≤ w3) (h4 : 1 ≤ w4) (hA : A = 0 ∨ (K : Int) ≤ A.natAbs) (hB : B = 0 ∨ (K : Int) ≤ B.natAbs)
    (hd : A ≠ 0 → B ≠ 0 → (K : Int) ∣ A ∧ (K : Int) ∣ B ∧ (K : Int) ∣ C ∧ (K : Int) ∣ E)
    (c1 : min A B ≤ C) (c2 : C ≤ max A B) (e1 : min C B ≤ E) (e2 : E ≤ max C B) :
    w1 * A + w2 * C + w3 * E + w4 * B = 0 ∨ K ≤ (w1 * A + w2 * C + w3 * E + w4 * B).natAbs := by
  by_cases hAB : A ≠ 0 ∧ B ≠ 0
  · obtain ⟨dA, dB, dC, dE⟩ := hd hAB.1 hAB.2
    have dz : (K : Int) ∣ w1 * A + w2 * C + w3 * E + w4 * B := Int.dvd_add (Int.dvd_add (Int.dvd_add (Int.dvd_mul_of_dvd_right dA) (Int.dvd_mul_of_dvd_right dC)) (Int.dvd_mul_of_dvd_right dE)) (Int.dvd_mul_of_dvd_right dB)
    by_cases h0 : w1 * A + w2 * C + w3 * E + w4 * B = 0
    · exact Or.inl h0
    · have := Int.natAbs_dvd_natAbs.2 dz
      rw [Int.natAbs_natCast] at this
      exact Or.inr (Nat.le_of_dvd (by omega) this)
  · have h0 : A = 0 ∨ B = 0 := by omega
    by_cases hp : 0 ≤ A ∧ 0 ≤ B
    · have := low_pos (K := (K : Int)) h1 h2 h3 h4 hp.1 (show 0 ≤ C by omega) (show 0 ≤ E by omega) hp.2 (by omega)
      generalize w1 * A + w2 * C + w3 * E + w4 * B = Z at *
      omega
    · have := low_pos (A := -A) (C := -C) (E := -E) (B := -B) (K := (K : Int)) h1 h2 h3 h4 (by omega) (by omega) (by omega) (by omega) (by omega)
      rw [Int.mul_neg, Int.mul_neg, Int.mul_neg, Int.mul_neg] at this
      generalize w1 * A = a at *
      generalize w2 * C = b at *
      generalize w3 * E = c at *
      generalize w4 * B = d at *
      omega
theorem abs_mul_le {w X M : Int} (h : 0 ≤ w) (hX : -M ≤ X ∧ X ≤ M) : -(w * M) ≤ w * X ∧ w * X ≤ w * M := by
  have a := Int.mul_le_mul_of_nonneg_left hX.1 h
  have b := Int.mul_le_mul_of_nonneg_left hX.2 h
  rw [Int.mul_neg] at a
  exact ⟨a, b⟩
theorem sv_rg {a : Nat} (ra : Rg a 123 1923) : SV a = 0 ∨ ((2 ^ 121 : Nat) : Int) ≤ (SV a).natAbs := by
  rcases ra.sv (by decide) (by decide) with h | ⟨h, _⟩
  · exact Or.inl h
  · exact Or.inr (Int.ofNat_le.2 (Nat.le_trans (pow_le_P2 (by decide)) h))
theorem sv_ne {x : Nat} (h : SV x ≠ 0) : mg x ≠ 0 := fun e => h (SV_mg0' x e)
theorem sv_rk {x a b : Nat} (h1 : min (rk a) (rk b) ≤ rk x) (h2 : rk x ≤ max (rk a) (rk b)) : min (SV a) (SV b) ≤ SV x ∧ SV x ≤ max (SV a) (SV b) := by
  have a1 := @SV_le a x
  have a2 := @SV_le b x
  have a3 := @SV_le x a
  have a4 := @SV_le x b
  omega
/-- What lies between two nodes is doubled. -/
theorem bt_tw {kind : Int} {X : List Int} {Y Y' : List Nat} (h : TwT X Y Y' X.length) {k : Nat} (hk : k + 1 < X.length) {i : Int} (h0 : 0 < i) (h1 : i < X.getD (k + 1) 0 - X.getD k 0) (hkd : kind = 2 ∨ kind = 3) :
    Tw (btT kind X Y k i (X.getD (k + 1) 0 - X.getD k 0)) (btT kind X Y' k i (X.getD (k + 1) 0 - X.getD k 0)) := by
  have st := h.ok.step hk
  have ra := h.rg k (by omega)
  have rb := h.rg (k + 1) hk
  have ta := h.tw k (by omega)
  have tb := h.tw (k + 1) hk
  have ua := ra.up (by decide) (by decide)
  have ub := rb.up (by decide) (by decide)
  have c51 : (109572 * 109572 * 109572 : Nat) ≤ 2 ^ 51 := by decide
  rcases hkd with e | e
  · subst e
    unfold btT
    rw [if_neg (by decide), if_pos rfl, if_neg (by decide), if_pos rfl]
    generalize X.getD (k + 1) 0 - X.getD k 0 = H at *
    obtain ⟨z1, z2, z3⟩ := zD_two (H - i) i _ _ (by omega) (by omega) ta.finx tb.finx
    obtain ⟨y1, y2, y3⟩ := zD_two (H - i) i _ _ (by omega) (by omega) ta.finy tb.finy
    unfold wsT
    rw [z1, z2, z3, y1, y2, y3, ta.sv, tb.sv]
    have e2 : (H - i) * (2 * SV (Y.getD k 0)) + i * (2 * SV (Y.getD (k + 1) 0)) = 2 * ((H - i) * SV (Y.getD k 0) + i * SV (Y.getD (k + 1) 0)) := by
      rw [Int.mul_left_comm, Int.mul_left_comm i, ← Int.mul_add]
    rw [e2]
    have hm : ((H.toNat : Nat) : Int) = H := by omega
    refine tw_ws (by omega) (by have : (109572 : Nat) ≤ 2 ^ 51 := by decide
                                omega) ?_ ?_
    · exact dvd_ge (Int.dvd_add (Int.dvd_mul_of_dvd_right ra.dvd121) (Int.dvd_mul_of_dvd_right rb.dvd121))
    · have m1 := abs_mul_le (w := H - i) (X := SV (Y.getD k 0)) (M := ((Q51 1923 : Nat) : Int)) (by omega) (by omega)
      have m2 := abs_mul_le (w := i) (X := SV (Y.getD (k + 1) 0)) (M := ((Q51 1923 : Nat) : Int)) (by omega) (by omega)
      have m3 : (H - i) * ((Q51 1923 : Nat) : Int) + i * ((Q51 1923 : Nat) : Int) = ((H.toNat * Q51 1923 : Nat) : Int) := by
        rw [← Int.add_mul, show H - i + i = H by omega, Int.natCast_mul, hm]
      generalize H.toNat * Q51 1923 = T at *
      generalize (H - i) * ((Q51 1923 : Nat) : Int) = t1 at *
      generalize i * ((Q51 1923 : Nat) : Int) = t2 at *
      generalize (H - i) * SV (Y.getD k 0) = t3 at *
      generalize i * SV (Y.getD (k + 1) 0) = t4 at *
      omega
  · subst e
    obtain ⟨tc, dc⟩ := pc_tw h hk
    obtain ⟨te, de⟩ := pe_tw h hk
    obtain ⟨_, pc1, pc2⟩ := pc_ok h.ok hk
    obtain ⟨_, pe1, pe2⟩ := pe_ok h.ok hk
    obtain ⟨C1, C2⟩ := sv_rk pc1 pc2
    obtain ⟨E1, E2⟩ := sv_rk pe1 pe2
    unfold btT
    rw [if_neg (by decide), if_neg (by decide), if_pos rfl, if_neg (by decide), if_neg (by decide), if_pos rfl]
    generalize pcT X Y X.length k = c at *
    generalize peT X Y X.length k = q at *
    generalize pcT X Y' X.length k = c' at *
    generalize peT X Y' X.length k = q' at *
    generalize X.getD (k + 1) 0 - X.getD k 0 = H at *
    obtain ⟨z1, z2, z3⟩ := zD_cw (h := H) (i := i) (by omega) (by omega) st.2 ta.finx tc.finx te.finx tb.finx
    obtain ⟨y1, y2, y3⟩ := zD_cw (h := H) (i := i) (by omega) (by omega) st.2 ta.finy tc.finy te.finy tb.finy
    unfold wsT
    rw [z1, z2, z3, y1, y2, y3, ta.sv, tb.sv, tc.sv, te.sv]
    have w := cw_bd (h := H) (i := i) (by omega) (by omega) st.2
    have es := cube_sum i (H - i)
    rw [show H - i + i = H by omega] at es
    have p1 : 0 < (H - i) * (H - i) * (H - i) := Int.mul_pos (Int.mul_pos (by omega) (by omega)) (by omega)
    have p4 : 0 < i * i * i := Int.mul_pos (Int.mul_pos h0 h0) h0
    have hb := cube_bd (i := H) (h := H) (by omega) (Int.le_refl _) st.2
    have hh : 0 < H * H * H := Int.mul_pos (Int.mul_pos (by omega) (by omega)) (by omega)
    have sA := sv_rg ra
    have sB := sv_rg rb
    have dA := ra.dvd121
    have dB := rb.dvd121
    have nA : SV (Y.getD k 0) ≠ 0 → ((2 ^ 121 : Nat) : Int) ∣ SV c := fun e => dc (sv_ne e)
    have nE : SV (Y.getD k 0) ≠ 0 → SV (Y.getD (k + 1) 0) ≠ 0 → ((2 ^ 121 : Nat) : Int) ∣ SV q := fun e f => de (sv_ne e) (sv_ne f)
    generalize (H - i) * (H - i) * (H - i) = w1 at *
    generalize 3 * (H - i) * (H - i) * i = w2 at *
    generalize 3 * (H - i) * i * i = w3 at *
    generalize i * i * i = w4 at *
    generalize H * H * H = HH at *
    generalize SV (Y.getD k 0) = A at *
    generalize SV (Y.getD (k + 1) 0) = B at *
    generalize SV c = C at *
    generalize SV q = E at *
    have e2 : w1 * (2 * A) + w2 * (2 * C) + w3 * (2 * E) + w4 * (2 * B) = 2 * (w1 * A + w2 * C + w3 * E + w4 * B) := by
      rw [Int.mul_left_comm w1, Int.mul_left_comm w2, Int.mul_left_comm w3, Int.mul_left_comm w4, ← Int.mul_add, ← Int.mul_add, ← Int.mul_add]
    rw [e2]
    have hm : ((HH.toNat : Nat) : Int) = HH := by omega
    have n51 : HH.toNat ≤ 2 ^ 51 := Nat.le_trans (by omega) c51
    refine tw_ws (by omega) n51 ?_ ?_
    · exact low_four (by omega) w.2.2.1 w.2.2.2.2.1 (by omega) sA sB (fun a b => ⟨dA, dB, nA a, nE a b⟩) C1 C2 E1 E2
    · generalize Q51 1923 = M at *
      have m1 := abs_mul_le (w := w1) (X := A) (M := (M : Int)) (by omega) (by omega)
      have m2 := abs_mul_le (w := w2) (X := C) (M := (M : Int)) w.2.2.1 (by omega)
      have m3 := abs_mul_le (w := w3) (X := E) (M := (M : Int)) w.2.2.2.2.1 (by omega)
      have m4 := abs_mul_le (w := w4) (X := B) (M := (M : Int)) (by omega) (by omega)
      have m5 : w1 * (M : Int) + w2 * (M : Int) + w3 * (M : Int) + w4 * (M : Int) = ((HH.toNat * M : Nat) : Int) := by
        rw [← Int.add_mul, ← Int.add_mul, ← Int.add_mul, es, Int.natCast_mul, hm]
      generalize HH.toNat * M = T at *
      generalize w1 * (M : Int) = t1 at *
      generalize w2 * (M : Int) = t2 at *
      generalize w3 * (M : Int) = t3 at *
      generalize w4 * (M : Int) = t4 at *
      generalize w1 * A = t5 at *
      generalize w2 * C = t6 at *
      generalize w3 * E = t7 at *
      generalize w4 * B = t8 at *
      omega
/-- The value at a place is doubled. -/
theorem at_tw {kind : Int} {X : List Int} {Y Y' : List Nat} {x : Int} (h : TwT X Y Y' X.length) (hkd : kind = 2 ∨ kind = 3) (c1 : chkT kind X Y = 0) (c2 : chkT kind X Y' = 0) :
    (atT kind X Y' x).2 = (atT kind X Y x).2 ∧ ((atT kind X Y x).2 = 0 → Tw (atT kind X Y x).1 (atT kind X Y' x).1) := by
  unfold atT
  rw [if_pos c1, if_pos c2]
  by_cases h1 : x < X.getD 0 0 ∨ lastT X < x
  · rw [if_pos h1, if_pos h1]; exact ⟨rfl, fun e => by simp at e⟩
  · rw [if_neg h1, if_neg h1]
    have f := fnd_ok h.ok (x := x) (by omega)
    by_cases h2 : X.getD (fndT X x) 0 = x
    · rw [if_pos h2, if_pos h2]
      exact ⟨rfl, fun _ => h.tw _ f.1⟩
    · rw [if_neg h2, if_neg h2]
      obtain ⟨i1, i2, i3⟩ := fnd_in h.ok (x := x) (by omega) (by omega) h2
      have i4 := f.2.2.1 i1
      exact ⟨rfl, fun _ => bt_tw h i1 (by omega) (by omega) hkd⟩

end Go.Proofs.Yteikihidblcljaa

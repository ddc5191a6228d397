/- The walk of the reference's Plus. -/
import Derived.Test.YtjhkjekbadbgnaaDt
namespace Go.Proofs.Ytjhkjekbadbgnaa
open Go.RowKit
set_option linter.unusedSimpArgs false
set_option linter.unusedVariables false

/-- The exponent of a sum, the digits to it, the sum. -/
def plE (d : Nat) (e : Int) (d' : Nat) (e' : Int) : Int := if d = 0 then e' else if d' = 0 then e else min e e'
def lowN (d : Nat) (e E : Int) : Nat := d * 2 ^ (e - E).toNat
def sumS (s : Bool) (A : Nat) (s' : Bool) (B : Nat) : Bool :=
  if s = s' ∨ A = 0 ∨ B = 0 then (if A = 0 then s' else s) && !(A + B == 0)
  else if A = B then false else if B < A then s else s'
def sumD (s : Bool) (A : Nat) (s' : Bool) (B : Nat) : Nat :=
  if s = s' ∨ A = 0 ∨ B = 0 then A + B else if A = B then 0 else if B < A then A - B else B - A
def sumE (s : Bool) (A : Nat) (s' : Bool) (B : Nat) (E : Int) : Int :=
  if s = s' ∨ A = 0 ∨ B = 0 then E else if A = B then 0 else E

theorem nd_shift (d k n : Nat) (h : nd d + k / 32 + 1 ≤ n) : nd (d * 2 ^ k) ≤ n := by
  refine nd_le ?_
  have h1 := lt_nd d
  have h2 : 2 ^ k ≤ BB ^ (k / 32 + 1) := by rw [BB_pow]; exact Nat.pow_le_pow_right (by decide) (by omega)
  calc d * 2 ^ k < BB ^ nd d * 2 ^ k := Nat.mul_lt_mul_of_pos_right h1 (Nat.pow_pos (by decide))
    _ ≤ BB ^ nd d * BB ^ (k / 32 + 1) := Nat.mul_le_mul_left _ h2
    _ = BB ^ (nd d + k / 32 + 1) := by rw [← Nat.pow_add]; rfl
    _ ≤ BB ^ n := Nat.pow_le_pow_right (by decide) h

/-- Two boxes with reals, and one for the answer. -/
structure PC (w : World) (b : Nat) (s : Bool) (a : Option Addr) (N c : Nat) (e : Int) (s' : Bool) (a' : Option Addr) (N' c' : Nat) (e' : Int) : Prop where
  c0 : w.cell? ⟨b, 0, none⟩ = some (.bool s)
  c1 : w.cell? ⟨b, 1, none⟩ = some (.slice a N c)
  c2 : w.cell? ⟨b, 2, none⟩ = some (.int .i64 e)
  c3 : w.cell? ⟨b + 1, 0, none⟩ = some (.bool s')
  c4 : w.cell? ⟨b + 1, 1, none⟩ = some (.slice a' N' c')
  c5 : w.cell? ⟨b + 1, 2, none⟩ = some (.int .i64 e')
  r0 : w.cell? ⟨b + 1 + 1, 0, none⟩ = some (.bool false)
  r1 : w.cell? ⟨b + 1 + 1, 1, none⟩ = some (.slice none 0 0)
  r2 : w.cell? ⟨b + 1 + 1, 2, none⟩ = some (.int .i64 0)
  f0 : ∀ o, w.frozen? ⟨b + 1 + 1, o, none⟩ = false
  sz : b + 1 + 1 < w.heap.size

theorem PC.below {w w' : World} {b : Nat} {s : Bool} {a : Option Addr} {N c : Nat} {e : Int} {s' : Bool} {a' : Option Addr} {N' c' : Nat} {e' : Int} (h : PC w b s a N c e s' a' N' c' e') (hb : Below w.heap.size w w') : PC w' b s a N c e s' a' N' c' e' := by
  have hs := h.sz
  have k0 := cellb hb b (by omega)
  have k1 := cellb hb (b + 1) (by omega)
  have k2 := cellb hb (b + 1 + 1) (by omega)
  exact ⟨(k0.1 _).trans h.c0, (k0.1 _).trans h.c1, (k0.1 _).trans h.c2, (k1.1 _).trans h.c3, (k1.1 _).trans h.c4, (k1.1 _).trans h.c5, (k2.1 _).trans h.r0, (k2.1 _).trans h.r1, (k2.1 _).trans h.r2, fun o => (k2.2 o).trans (h.f0 o), Nat.lt_of_lt_of_le h.sz hb.size⟩




set_option maxHeartbeats 16000000 in
set_option maxRecDepth 100000 in
theorem plus_1 (s : Bool) (a : Option Addr) (N c : Nat) (e : Int) (s' : Bool) (a' : Option Addr) (N' c' : Nat) (e' : Int) (w : World) (X Y A B : Nat) (E : Int) (g : Bool) (H : Hd (Dgs w a X)) (H' : Hd (Dgs w a' Y))
    (HBo : Hd (∀ w, Calls Try.prog 102 #[.agg #[.bool s, .slice a N c, .int .i64 e], .agg #[.bool s', .slice a' N' c', .int .i64 e']] w fun en w' => en = .returned (.int .i64 E) ∧ Below w.heap.size w w'))
    (HLo : Hd (∀ w, Dgs w a X → Calls Try.prog 103 #[.agg #[.bool s, .slice a N c, .int .i64 e], .int .i64 E] w (DRet A w)))
    (HLo' : Hd (∀ w, Dgs w a' Y → Calls Try.prog 103 #[.agg #[.bool s', .slice a' N' c', .int .i64 e'], .int .i64 E] w (DRet B w)))
    (hA : nd A ≤ 100000) (hB : nd B ≤ 100000) (hP : s = s' ∨ A = 0 ∨ B = 0) (hg : ((if A = 0 then s' else s) && !(A + B == 0)) = g) :
    Calls Try.prog 89 #[.agg #[.bool s, .slice a N c, .int .i64 e], .agg #[.bool s', .slice a' N' c', .int .i64 e']] w
      (NRet g (A + B) E w) := by
  have HAD : Hd (∀ w a1 k1 a2 k2, Dgs w a1 A → Dgs w a2 B → Calls Try.prog 104 #[.slice a1 (nd A) k1, .slice a2 (nd B) k2] w (DRet (A + B) w)) := ⟨fun w a1 k1 a2 k2 h h' => addDigits_any a1 A k1 a2 B k2 w h h' (by omega) (by omega)⟩
  unfold DRet at HLo HLo'
  obtain ⟨K, hK⟩ : ∃ K, A + B = K := ⟨_, rfl⟩
  obtain ⟨nA, hnA⟩ : ∃ K, nd A = K := ⟨_, rfl⟩
  obtain ⟨nB, hnB⟩ : ∃ K, nd B = K := ⟨_, rfl⟩
  rw [hnA] at HLo hA
  rw [hnB] at HLo' hB
  rw [hnA, hnB, hK] at HAD
  rw [hK]
  rw [hK] at hg
  by_cases h1 : A = 0
  · rw [if_pos h1] at hg
    obtain rfl : nA = 0 := by rw [← hnA, h1]; rfl
    by_cases h2 : B = 0
    · obtain rfl : nB = 0 := by rw [← hnB, h2]; rfl
      have HG : Hd (false = g) := ⟨by rw [← hg, ← hK, h1, h2]; simp⟩
      clear hP h1 h2 hA hB hnA hnB hK hg
      go_enter Try.func89, Try.ntmps89
      go_wp2_with fail
      refine (HBo.out _).mono ?_; rintro en w1 ⟨rfl, hb⟩
      have P1 : Hd (PC w1 w.heap.size s a N c e s' a' N' c' e') := ⟨PC.below ⟨by go_simp, by go_simp, by go_simp, by go_simp, by go_simp, by go_simp, by go_simp, by go_simp, by go_simp, fun o => by go_simp, by simp⟩ hb⟩
      have B1 : Hd (Below w.heap.size w w1) := ⟨(below_3 w _ _ _).trans (hb.mono (by simp; omega))⟩
      clear hb
      have c0 := (P1.out).c0
      have c1 := (P1.out).c1
      have c2 := (P1.out).c2
      have c3 := (P1.out).c3
      have c4 := (P1.out).c4
      have c5 := (P1.out).c5
      have r0 := (P1.out).r0
      have r1 := (P1.out).r1
      have r2 := (P1.out).r2
      have f0 := (P1.out).f0
      go_wp2_with fail
      clear c0 c1 c2 c3 c4 c5 r0 r1 r2 f0
      refine (HLo.out _ (H.out.below B1.out)).mono ?_; rintro en w2 ⟨a1, k1, rfl, hc, hd, hb, hf⟩
      have P2 := Hd.mk (P1.out.below hb)
      have B2 := Hd.mk (B1.out.trans (hb.mono B1.out.size))
      have D1 := Hd.mk hd
      clear hc hd hb hf
      have c0 := (P2.out).c0
      have c1 := (P2.out).c1
      have c2 := (P2.out).c2
      have c3 := (P2.out).c3
      have c4 := (P2.out).c4
      have c5 := (P2.out).c5
      have r0 := (P2.out).r0
      have r1 := (P2.out).r1
      have r2 := (P2.out).r2
      have f0 := (P2.out).f0
      go_wp2_with fail
      clear c0 c1 c2 c3 c4 c5 r0 r1 r2 f0
      refine (HLo'.out _ (H'.out.below B2.out)).mono ?_; rintro en w3 ⟨a2, k2, rfl, hc, hd, hb, hf⟩
      have P3 := Hd.mk (P2.out.below hb)
      have B3 := Hd.mk (B2.out.trans (hb.mono B2.out.size))
      have D2 := Hd.mk hd
      have D1' := Hd.mk (D1.out.below hb)
      clear hc hd hb hf
      have c0 := (P3.out).c0
      have c1 := (P3.out).c1
      have c2 := (P3.out).c2
      have c3 := (P3.out).c3
      have c4 := (P3.out).c4
      have c5 := (P3.out).c5
      have r0 := (P3.out).r0
      have r1 := (P3.out).r1
      have r2 := (P3.out).r2
      have f0 := (P3.out).f0
      go_wp2_with fail
      clear c0 c1 c2 c3 c4 c5 r0 r1 r2 f0
      all_goals
        refine (HAD.out w3 a1 k1 a2 k2 D1'.out D2.out).mono ?_
        rintro en w4 ⟨a4, k4, rfl, hc, hd, hb, hf⟩
        have HS3 := P3.out.sz
        have P4 := Hd.mk (P3.out.below hb)
        have B4 := Hd.mk (B3.out.trans (hb.mono B3.out.size))
        have D4 := Hd.mk hd
        have F4 : Hd (∀ b o v, a4 = some ⟨b, o, v⟩ → w.heap.size + 1 + 1 < b) := ⟨fun b o v e => by have h1 := hf b o v e; omega⟩
        clear hc hd hb hf HS3
        have c0 := (P4.out).c0
        have c1 := (P4.out).c1
        have c2 := (P4.out).c2
        have c3 := (P4.out).c3
        have c4 := (P4.out).c4
        have c5 := (P4.out).c5
        have r0 := (P4.out).r0
        have r1 := (P4.out).r1
        have r2 := (P4.out).r2
        have f0 := (P4.out).f0
        go_wp2_with fail
        refine bodyPost_ret (v := .agg #[.bool g, .slice a4 (nd K) k4, .int .i64 E]) ?_ rfl ⟨a4, k4, rfl, ?_, ?_⟩
        · rw [← HG.out]
          simp [results, Try.results89, go_sem, r0, r1, r2]
          all_goals (first | assumption | (refine Bool.eq_false_iff.2 ?_; assumption) | (rename_i hx hy; rw [hx]; first | assumption | (refine Bool.eq_false_iff.2 ?_; assumption)))
        · repeat (refine Dgs.setOther ?_ F4.out _ _)
          exact D4.out
        · repeat (refine Below.setCell ?_ (by show w.heap.size ≤ w.heap.size + 1 + 1; omega) _)
          exact B4.out
    · have t2 : ((nB : Int) == 0) = false := by rw [beq_eq_false_iff_ne]; have := nd_pos h2; omega
      have t3 : decide (0 < nB) = true := by have := nd_pos h2; simp; omega
      have t4 : decide ((0 : Int) < nB) = true := by have := nd_pos h2; simp; omega
      have HG : Hd (s' = g) := ⟨by rw [← hg, show (K == 0) = false by rw [beq_eq_false_iff_ne]; omega]; simp⟩
      clear hP h1 h2 hA hnA hnB hK hg
      go_enter Try.func89, Try.ntmps89
      go_wp2_with fail
      refine (HBo.out _).mono ?_; rintro en w1 ⟨rfl, hb⟩
      have P1 : Hd (PC w1 w.heap.size s a N c e s' a' N' c' e') := ⟨PC.below ⟨by go_simp, by go_simp, by go_simp, by go_simp, by go_simp, by go_simp, by go_simp, by go_simp, by go_simp, fun o => by go_simp, by simp⟩ hb⟩
      have B1 : Hd (Below w.heap.size w w1) := ⟨(below_3 w _ _ _).trans (hb.mono (by simp; omega))⟩
      clear hb
      have c0 := (P1.out).c0
      have c1 := (P1.out).c1
      have c2 := (P1.out).c2
      have c3 := (P1.out).c3
      have c4 := (P1.out).c4
      have c5 := (P1.out).c5
      have r0 := (P1.out).r0
      have r1 := (P1.out).r1
      have r2 := (P1.out).r2
      have f0 := (P1.out).f0
      go_wp2_with fail
      clear c0 c1 c2 c3 c4 c5 r0 r1 r2 f0
      refine (HLo.out _ (H.out.below B1.out)).mono ?_; rintro en w2 ⟨a1, k1, rfl, hc, hd, hb, hf⟩
      have P2 := Hd.mk (P1.out.below hb)
      have B2 := Hd.mk (B1.out.trans (hb.mono B1.out.size))
      have D1 := Hd.mk hd
      clear hc hd hb hf
      have c0 := (P2.out).c0
      have c1 := (P2.out).c1
      have c2 := (P2.out).c2
      have c3 := (P2.out).c3
      have c4 := (P2.out).c4
      have c5 := (P2.out).c5
      have r0 := (P2.out).r0
      have r1 := (P2.out).r1
      have r2 := (P2.out).r2
      have f0 := (P2.out).f0
      go_wp2_with fail
      clear c0 c1 c2 c3 c4 c5 r0 r1 r2 f0
      refine (HLo'.out _ (H'.out.below B2.out)).mono ?_; rintro en w3 ⟨a2, k2, rfl, hc, hd, hb, hf⟩
      have P3 := Hd.mk (P2.out.below hb)
      have B3 := Hd.mk (B2.out.trans (hb.mono B2.out.size))
      have D2 := Hd.mk hd
      have D1' := Hd.mk (D1.out.below hb)
      clear hc hd hb hf
      have c0 := (P3.out).c0
      have c1 := (P3.out).c1
      have c2 := (P3.out).c2
      have c3 := (P3.out).c3
      have c4 := (P3.out).c4
      have c5 := (P3.out).c5
      have r0 := (P3.out).r0
      have r1 := (P3.out).r1
      have r2 := (P3.out).r2
      have f0 := (P3.out).f0
      go_wp2_with fail
      clear c0 c1 c2 c3 c4 c5 r0 r1 r2 f0
      all_goals
        refine (HAD.out w3 a1 k1 a2 k2 D1'.out D2.out).mono ?_
        rintro en w4 ⟨a4, k4, rfl, hc, hd, hb, hf⟩
        have HS3 := P3.out.sz
        have P4 := Hd.mk (P3.out.below hb)
        have B4 := Hd.mk (B3.out.trans (hb.mono B3.out.size))
        have D4 := Hd.mk hd
        have F4 : Hd (∀ b o v, a4 = some ⟨b, o, v⟩ → w.heap.size + 1 + 1 < b) := ⟨fun b o v e => by have h1 := hf b o v e; omega⟩
        clear hc hd hb hf HS3
        have c0 := (P4.out).c0
        have c1 := (P4.out).c1
        have c2 := (P4.out).c2
        have c3 := (P4.out).c3
        have c4 := (P4.out).c4
        have c5 := (P4.out).c5
        have r0 := (P4.out).r0
        have r1 := (P4.out).r1
        have r2 := (P4.out).r2
        have f0 := (P4.out).f0
        go_wp2_with fail
        refine bodyPost_ret (v := .agg #[.bool g, .slice a4 (nd K) k4, .int .i64 E]) ?_ rfl ⟨a4, k4, rfl, ?_, ?_⟩
        · rw [← HG.out]
          simp [results, Try.results89, go_sem, r0, r1, r2]
          all_goals (first | assumption | (refine Bool.eq_false_iff.2 ?_; assumption) | (rename_i hx hy; rw [hx]; first | assumption | (refine Bool.eq_false_iff.2 ?_; assumption)))
        · repeat (refine Dgs.setOther ?_ F4.out _ _)
          exact D4.out
        · repeat (refine Below.setCell ?_ (by show w.heap.size ≤ w.heap.size + 1 + 1; omega) _)
          exact B4.out
  · rw [if_neg h1] at hg
    have t2 : ((nA : Int) == 0) = false := by rw [beq_eq_false_iff_ne]; have := nd_pos h1; omega
    have HG : Hd (s = g) := ⟨by rw [← hg, show (K == 0) = false by rw [beq_eq_false_iff_ne]; omega]; simp⟩
    by_cases h2 : B = 0
    · obtain rfl : nB = 0 := by rw [← hnB, h2]; rfl
      have t3 : decide (0 < nA) = true := by have := nd_pos h1; simp; omega
      have t4 : decide ((0 : Int) < nA) = true := by have := nd_pos h1; simp; omega
      clear hP h1 h2 hB hnA hnB hK hg
      go_enter Try.func89, Try.ntmps89
      go_wp2_with fail
      refine (HBo.out _).mono ?_; rintro en w1 ⟨rfl, hb⟩
      have P1 : Hd (PC w1 w.heap.size s a N c e s' a' N' c' e') := ⟨PC.below ⟨by go_simp, by go_simp, by go_simp, by go_simp, by go_simp, by go_simp, by go_simp, by go_simp, by go_simp, fun o => by go_simp, by simp⟩ hb⟩
      have B1 : Hd (Below w.heap.size w w1) := ⟨(below_3 w _ _ _).trans (hb.mono (by simp; omega))⟩
      clear hb
      have c0 := (P1.out).c0
      have c1 := (P1.out).c1
      have c2 := (P1.out).c2
      have c3 := (P1.out).c3
      have c4 := (P1.out).c4
      have c5 := (P1.out).c5
      have r0 := (P1.out).r0
      have r1 := (P1.out).r1
      have r2 := (P1.out).r2
      have f0 := (P1.out).f0
      go_wp2_with fail
      clear c0 c1 c2 c3 c4 c5 r0 r1 r2 f0
      refine (HLo.out _ (H.out.below B1.out)).mono ?_; rintro en w2 ⟨a1, k1, rfl, hc, hd, hb, hf⟩
      have P2 := Hd.mk (P1.out.below hb)
      have B2 := Hd.mk (B1.out.trans (hb.mono B1.out.size))
      have D1 := Hd.mk hd
      clear hc hd hb hf
      have c0 := (P2.out).c0
      have c1 := (P2.out).c1
      have c2 := (P2.out).c2
      have c3 := (P2.out).c3
      have c4 := (P2.out).c4
      have c5 := (P2.out).c5
      have r0 := (P2.out).r0
      have r1 := (P2.out).r1
      have r2 := (P2.out).r2
      have f0 := (P2.out).f0
      go_wp2_with fail
      clear c0 c1 c2 c3 c4 c5 r0 r1 r2 f0
      refine (HLo'.out _ (H'.out.below B2.out)).mono ?_; rintro en w3 ⟨a2, k2, rfl, hc, hd, hb, hf⟩
      have P3 := Hd.mk (P2.out.below hb)
      have B3 := Hd.mk (B2.out.trans (hb.mono B2.out.size))
      have D2 := Hd.mk hd
      have D1' := Hd.mk (D1.out.below hb)
      clear hc hd hb hf
      have c0 := (P3.out).c0
      have c1 := (P3.out).c1
      have c2 := (P3.out).c2
      have c3 := (P3.out).c3
      have c4 := (P3.out).c4
      have c5 := (P3.out).c5
      have r0 := (P3.out).r0
      have r1 := (P3.out).r1
      have r2 := (P3.out).r2
      have f0 := (P3.out).f0
      go_wp2_with fail
      clear c0 c1 c2 c3 c4 c5 r0 r1 r2 f0
      all_goals
        refine (HAD.out w3 a1 k1 a2 k2 D1'.out D2.out).mono ?_
        rintro en w4 ⟨a4, k4, rfl, hc, hd, hb, hf⟩
        have HS3 := P3.out.sz
        have P4 := Hd.mk (P3.out.below hb)
        have B4 := Hd.mk (B3.out.trans (hb.mono B3.out.size))
        have D4 := Hd.mk hd
        have F4 : Hd (∀ b o v, a4 = some ⟨b, o, v⟩ → w.heap.size + 1 + 1 < b) := ⟨fun b o v e => by have h1 := hf b o v e; omega⟩
        clear hc hd hb hf HS3
        have c0 := (P4.out).c0
        have c1 := (P4.out).c1
        have c2 := (P4.out).c2
        have c3 := (P4.out).c3
        have c4 := (P4.out).c4
        have c5 := (P4.out).c5
        have r0 := (P4.out).r0
        have r1 := (P4.out).r1
        have r2 := (P4.out).r2
        have f0 := (P4.out).f0
        go_wp2_with fail
        refine bodyPost_ret (v := .agg #[.bool g, .slice a4 (nd K) k4, .int .i64 E]) ?_ rfl ⟨a4, k4, rfl, ?_, ?_⟩
        · rw [← HG.out]
          simp [results, Try.results89, go_sem, r0, r1, r2]
          all_goals (first | assumption | (refine Bool.eq_false_iff.2 ?_; assumption) | (rename_i hx hy; rw [hx]; first | assumption | (refine Bool.eq_false_iff.2 ?_; assumption)))
        · repeat (refine Dgs.setOther ?_ F4.out _ _)
          exact D4.out
        · repeat (refine Below.setCell ?_ (by show w.heap.size ≤ w.heap.size + 1 + 1; omega) _)
          exact B4.out
    · have t1 : (s == s') = true := by rcases hP with h | h | h <;> first | (rw [beq_iff_eq]; exact h) | exact absurd h h1 | exact absurd h h2
      have t3 : decide (0 < nA + nB) = true := by have := nd_pos h1; simp; omega
      have t4 : decide ((0 : Int) < (nA : Int) + nB) = true := by have := nd_pos h1; simp; omega
      have t5 : ((nB : Int) == 0) = false := by rw [beq_eq_false_iff_ne]; have := nd_pos h2; omega
      clear hP h1 h2 hnA hnB hK hg
      go_enter Try.func89, Try.ntmps89
      go_wp2_with fail
      refine (HBo.out _).mono ?_; rintro en w1 ⟨rfl, hb⟩
      have P1 : Hd (PC w1 w.heap.size s a N c e s' a' N' c' e') := ⟨PC.below ⟨by go_simp, by go_simp, by go_simp, by go_simp, by go_simp, by go_simp, by go_simp, by go_simp, by go_simp, fun o => by go_simp, by simp⟩ hb⟩
      have B1 : Hd (Below w.heap.size w w1) := ⟨(below_3 w _ _ _).trans (hb.mono (by simp; omega))⟩
      clear hb
      have c0 := (P1.out).c0
      have c1 := (P1.out).c1
      have c2 := (P1.out).c2
      have c3 := (P1.out).c3
      have c4 := (P1.out).c4
      have c5 := (P1.out).c5
      have r0 := (P1.out).r0
      have r1 := (P1.out).r1
      have r2 := (P1.out).r2
      have f0 := (P1.out).f0
      go_wp2_with fail
      clear c0 c1 c2 c3 c4 c5 r0 r1 r2 f0
      refine (HLo.out _ (H.out.below B1.out)).mono ?_; rintro en w2 ⟨a1, k1, rfl, hc, hd, hb, hf⟩
      have P2 := Hd.mk (P1.out.below hb)
      have B2 := Hd.mk (B1.out.trans (hb.mono B1.out.size))
      have D1 := Hd.mk hd
      clear hc hd hb hf
      have c0 := (P2.out).c0
      have c1 := (P2.out).c1
      have c2 := (P2.out).c2
      have c3 := (P2.out).c3
      have c4 := (P2.out).c4
      have c5 := (P2.out).c5
      have r0 := (P2.out).r0
      have r1 := (P2.out).r1
      have r2 := (P2.out).r2
      have f0 := (P2.out).f0
      go_wp2_with fail
      clear c0 c1 c2 c3 c4 c5 r0 r1 r2 f0
      refine (HLo'.out _ (H'.out.below B2.out)).mono ?_; rintro en w3 ⟨a2, k2, rfl, hc, hd, hb, hf⟩
      have P3 := Hd.mk (P2.out.below hb)
      have B3 := Hd.mk (B2.out.trans (hb.mono B2.out.size))
      have D2 := Hd.mk hd
      have D1' := Hd.mk (D1.out.below hb)
      clear hc hd hb hf
      have c0 := (P3.out).c0
      have c1 := (P3.out).c1
      have c2 := (P3.out).c2
      have c3 := (P3.out).c3
      have c4 := (P3.out).c4
      have c5 := (P3.out).c5
      have r0 := (P3.out).r0
      have r1 := (P3.out).r1
      have r2 := (P3.out).r2
      have f0 := (P3.out).f0
      go_wp2_with fail
      clear c0 c1 c2 c3 c4 c5 r0 r1 r2 f0
      all_goals
        refine (HAD.out w3 a1 k1 a2 k2 D1'.out D2.out).mono ?_
        rintro en w4 ⟨a4, k4, rfl, hc, hd, hb, hf⟩
        have HS3 := P3.out.sz
        have P4 := Hd.mk (P3.out.below hb)
        have B4 := Hd.mk (B3.out.trans (hb.mono B3.out.size))
        have D4 := Hd.mk hd
        have F4 : Hd (∀ b o v, a4 = some ⟨b, o, v⟩ → w.heap.size + 1 + 1 < b) := ⟨fun b o v e => by have h1 := hf b o v e; omega⟩
        clear hc hd hb hf HS3
        have c0 := (P4.out).c0
        have c1 := (P4.out).c1
        have c2 := (P4.out).c2
        have c3 := (P4.out).c3
        have c4 := (P4.out).c4
        have c5 := (P4.out).c5
        have r0 := (P4.out).r0
        have r1 := (P4.out).r1
        have r2 := (P4.out).r2
        have f0 := (P4.out).f0
        go_wp2_with fail
        refine bodyPost_ret (v := .agg #[.bool g, .slice a4 (nd K) k4, .int .i64 E]) ?_ rfl ⟨a4, k4, rfl, ?_, ?_⟩
        · rw [← HG.out]
          simp [results, Try.results89, go_sem, r0, r1, r2]
          all_goals (first | assumption | (refine Bool.eq_false_iff.2 ?_; assumption) | (rename_i hx hy; rw [hx]; first | assumption | (refine Bool.eq_false_iff.2 ?_; assumption)))
        · repeat (refine Dgs.setOther ?_ F4.out _ _)
          exact D4.out
        · repeat (refine Below.setCell ?_ (by show w.heap.size ≤ w.heap.size + 1 + 1; omega) _)
          exact B4.out

end Go.Proofs.Ytjhkjekbadbgnaa

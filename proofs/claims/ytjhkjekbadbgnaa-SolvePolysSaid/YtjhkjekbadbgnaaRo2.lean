/- The walk of the reference's NearOver. -/
import Derived.Test.YtjhkjekbadbgnaaRn
namespace Go.Proofs.Ytjhkjekbadbgnaa
open Go.RowKit
set_option linter.unusedSimpArgs false
set_option linter.unusedVariables false

/-- How many digits more a quotient asks for. -/
def ovK (d d' : Nat) : Nat := 70 + bl d' - bl d
/-- The word nearest to a quotient of reals. -/
def overN (s : Bool) (d : Nat) (e : Int) (d' : Nat) (e' : Int) : Nat :=
  if d = 0 then 0 else nearM s (d * 2 ^ ovK d d' / d') (e - ovK d d' - e') (nz (d * 2 ^ ovK d d' % d'))

/-- Two boxes with reals. -/
structure P2 (w : World) (b : Nat) (s : Bool) (a : Option Addr) (N c : Nat) (e : Int) (s' : Bool) (a' : Option Addr) (N' c' : Nat) (e' : Int) : Prop where
  c0 : w.cell? ⟨b, 0, none⟩ = some (.bool s)
  c1 : w.cell? ⟨b, 1, none⟩ = some (.slice a N c)
  c2 : w.cell? ⟨b, 2, none⟩ = some (.int .i64 e)
  c3 : w.cell? ⟨b + 1, 0, none⟩ = some (.bool s')
  c4 : w.cell? ⟨b + 1, 1, none⟩ = some (.slice a' N' c')
  c5 : w.cell? ⟨b + 1, 2, none⟩ = some (.int .i64 e')
  sz : b + 1 < w.heap.size

theorem P2.below {w w' : World} {b : Nat} {s : Bool} {a : Option Addr} {N c : Nat} {e : Int} {s' : Bool} {a' : Option Addr} {N' c' : Nat} {e' : Int} (h : P2 w b s a N c e s' a' N' c' e') (hb : Below w.heap.size w w') : P2 w' b s a N c e s' a' N' c' e' := by
  have hs := h.sz
  have k0 := cellb hb b (by omega)
  have k1 := cellb hb (b + 1) (by omega)
  exact ⟨(k0.1 _).trans h.c0, (k0.1 _).trans h.c1, (k0.1 _).trans h.c2, (k1.1 _).trans h.c3, (k1.1 _).trans h.c4, (k1.1 _).trans h.c5, Nat.lt_of_lt_of_le h.sz hb.size⟩
theorem P2.drewN {w : World} {b : Nat} {s : Bool} {a : Option Addr} {N c : Nat} {e : Int} {s' : Bool} {a' : Option Addr} {N' c' : Nat} {e' : Int} (h : P2 w b s a N c e s' a' N' c' e') (k : Nat) : P2 (w.drewN k) b s a N c e s' a' N' c' e' :=
  ⟨h.c0, h.c1, h.c2, h.c3, h.c4, h.c5, h.sz⟩
theorem P2.drew {w : World} {b : Nat} {s : Bool} {a : Option Addr} {N c : Nat} {e : Int} {s' : Bool} {a' : Option Addr} {N' c' : Nat} {e' : Int} (h : P2 w b s a N c e s' a' N' c' e') : P2 w.drew b s a N c e s' a' N' c' e' :=
  ⟨h.c0, h.c1, h.c2, h.c3, h.c4, h.c5, h.sz⟩
theorem below_2 (w : World) (o1 o2 : Obj) : Below w.heap.size w ((w.alloc o1).alloc o2) :=
  ((Below.refl _ _).alloc (Nat.le_refl _) _).alloc (by simp) _


set_option maxHeartbeats 16000000 in
set_option maxRecDepth 100000 in
theorem nearOver_any (s : Bool) (a : Option Addr) (d c : Nat) (e : Int) (s' : Bool) (a' : Option Addr) (d' c' : Nat) (e' : Int) (w : World) (h : Dgs w a d) (h' : Dgs w a' d') (hs : nd d ≤ 100000) (hs' : nd d' ≤ 100000) (h1 : d' ≠ 0) (he : -1000000 ≤ e ∧ e ≤ 1000000) (he' : -1000000 ≤ e' ∧ e' ≤ 1000000) :
    Calls Try.prog 97 #[.agg #[.bool s, .slice a (nd d) c, .int .i64 e], .agg #[.bool s', .slice a' (nd d') c', .int .i64 e']] w
      (URet (overN s d e d' e') w) := by
  have H := Hd.mk h
  have H' := Hd.mk h'
  by_cases h0 : d = 0
  · have HZ := Hd.mk (zero_t s a d c e (by omega) h0)
    have HR : Hd (0 = overN s d e d' e') := ⟨by unfold overN; rw [if_pos h0]⟩
    generalize overN s d e d' e' = R at *
    clear h h' h0 he he' hs hs' h1
    generalize nd d = N at *
    generalize nd d' = N' at *
    go_enter Try.func97, Try.ntmps97
    go_wp2_with fail
    refine (HZ.out _).mono ?_; rintro en w1 ⟨rfl, hb⟩
    have B1 : Hd (Below w.heap.size w w1) := ⟨(below_2 w _ _).trans (hb.mono (by simp; omega))⟩
    clear hb
    go_wp2_with fail
    go_ret
    exact ⟨ret_int (by have := HR.out; omega), B1.out⟩
  · have HZ := Hd.mk (zero_f s a d c e (by omega) h0)
    have hbl : bl d ≤ 32 * nd d := bl_le (by rw [← BB_pow]; exact lt_nd d)
    have hbl' : bl d' ≤ 32 * nd d' := bl_le (by rw [← BB_pow]; exact lt_nd d')
    have hB : bl d ≤ 3200000 := by omega
    have hB' : bl d' ≤ 3200000 := by omega
    have hLe : Hd (∀ w, Dgs w a d → Calls Try.prog 71 #[.slice a (nd d) c] w fun en w' => en = .returned (.int .i64 (bl d)) ∧ w' = w) := ⟨fun w h => (len_any a d c w h (by omega)).mono fun _ _ h => ⟨h.1, h.2.symm⟩⟩
    have hLe' : Hd (∀ w, Dgs w a' d' → Calls Try.prog 71 #[.slice a' (nd d') c'] w fun en w' => en = .returned (.int .i64 (bl d')) ∧ w' = w) := ⟨fun w h => (len_any a' d' c' w h (by omega)).mono fun _ _ h => ⟨h.1, h.2.symm⟩⟩
    obtain ⟨k, hk⟩ : ∃ k, ovK d d' = k := ⟨_, rfl⟩
    have hmx : max (0 : Int) (70 - bl d + bl d') = (k : Int) := by rw [← hk]; unfold ovK; omega
    have hk2 : k ≤ 3200070 := by rw [← hk]; unfold ovK; omega
    have HS : Hd (∀ w, Dgs w a d → Calls Try.prog 86 #[.slice a (nd d) c, .int .i64 k] w (DRet (d * 2 ^ k) w)) := ⟨fun w h => shiftUp_any a d c k w h (by omega) (by omega)⟩
    have nX : nd (d * 2 ^ k) ≤ 300000 := nd_shift _ _ _ (by omega)
    have HV : Hd (∀ w a1 c1, Dgs w a1 (d * 2 ^ k) → Dgs w a' d' → Calls Try.prog 113 #[.slice a1 (nd (d * 2 ^ k)) c1, .slice a' (nd d') c'] w (D22Ret (d * 2 ^ k / d') (d * 2 ^ k % d') w)) := ⟨fun w a1 c1 h h' => divDigits_any a1 _ c1 a' d' c' w h h' (by omega) (by omega) h1⟩
    have HR : Hd (nearM s (d * 2 ^ k / d') (e - k - e') (nz (d * 2 ^ k % d')) = overN s d e d' e') := ⟨by unfold overN; rw [if_neg h0, hk]⟩
    have nQ : nd (d * 2 ^ k / d') ≤ 300000 := Nat.le_trans (nd_mono (Nat.div_le_self _ _)) nX
    generalize d * 2 ^ k / d' = Q at *
    generalize d * 2 ^ k % d' = M at *
    generalize d * 2 ^ k = X at *
    have HN : Hd (∀ w a1 c1, Dgs w a1 Q → Calls Try.prog 92 #[.agg #[.bool s, .slice a1 (nd Q) c1, .int .i64 (e - k - e')], .bool (decide (0 < nd M))] w (URet (nearM s Q (e - k - e') (nz M)) w)) := ⟨fun w a1 c1 h => by
      have e1 : decide (0 < nd M) = nz M := by
        by_cases h0 : M = 0
        · subst h0; rfl
        · rw [nz_t h0]; have := nd_pos h0; simp; omega
      rw [e1]
      exact nearMore_any s a1 Q c1 (e - k - e') (nz M) w h (by omega) (by omega)⟩
    generalize nearM s Q (e - k - e') (nz M) = R at *
    generalize overN s d e d' e' = R2 at *
    clear h h' h0 h1 hk hbl hbl' hs hs'
    generalize nd d = N at *
    generalize nd d' = N' at *
    generalize bl d = B at *
    generalize bl d' = B' at *
    go_enter Try.func97, Try.ntmps97
    go_wp2_with fail
    refine (HZ.out _).mono ?_; rintro en w1 ⟨rfl, hb⟩
    have B1 : Hd (Below w.heap.size w w1) := ⟨(below_2 w _ _).trans (hb.mono (by simp; omega))⟩
    have P1 : Hd (P2 w1 w.heap.size s a N c e s' a' N' c' e') := ⟨P2.below ⟨by go_simp, by go_simp, by go_simp, by go_simp, by go_simp, by go_simp, by simp⟩ hb⟩
    clear hb
    have c0 := P1.out.c0; have c1 := P1.out.c1; have c2 := P1.out.c2; have c3 := P1.out.c3; have c4 := P1.out.c4; have c5 := P1.out.c5
    have Q1 : Hd (∀ n, Dgs (w1.drewN n) a d) := ⟨fun n => (H.out.below B1.out).drewN n⟩
    have Q2 : Hd (∀ n, Dgs (w1.drewN n) a' d') := ⟨fun n => (H'.out.below B1.out).drewN n⟩
    go_wp2_with fail
    go_quiet ((first | (go_at_call_of 71 a; exact Calls.quiet_of_same (hLe.out _ (Q1.out _))) | (go_at_call_of 71 a'; exact Calls.quiet_of_same (hLe'.out _ (Q2.out _)))))
    go_wp2_with fail
    have P2' := Hd.mk (P1.out.drewN nq)
    have V1 : Hd (Dgs (w1.drewN nq).drew a d) := ⟨(Q1.out nq).keep fun _ _ _ h => h⟩
    have V2 : Hd (Dgs (w1.drewN nq).drew a' d') := ⟨(Q2.out nq).keep fun _ _ _ h => h⟩
    have B2 := Hd.mk (below_drewN B1.out nq).drew
    generalize hw2 : w1.drewN nq = w2 at *
    clear hw2
    go_region_held3 (fun w' => w'.cell? ⟨w.heap.size, 1, none⟩ = some (.slice a N c) ∧ w'.cell? ⟨w.heap.size + 1, 1, none⟩ = some (.slice a' N' c')) (first | exact ⟨P2'.out.c1, P2'.out.c4⟩ | exact ⟨P4.out.c1, P4.out.c4⟩ | exact ⟨P3.out.c1, P3.out.c4⟩) (first | (go_at_call_of 113 a'; refine (HV.out _ _ _ U1.out U2.out).mono ?_; rintro en w4 ⟨a4, k4, a5, k5, rfl, hc4, hc5, hd4, hd5, hb, hf4, hf5⟩; have P4 := Hd.mk (P3.out.below hb); have B4 := Hd.mk (B3.out.trans (hb.mono B3.out.size)); have D4 := Hd.mk hd4; clear hc4 hc5 hd4 hd5 hb hf4 hf5) | (go_at_call_of 86 a; refine (HS.out _ V1.out).mono ?_; rintro en w3 ⟨a3, k3, rfl, hc3, hd3, hb, hf3⟩; have P3 := Hd.mk (P2'.out.drew.below hb); have B3 := Hd.mk (B2.out.trans (hb.mono B2.out.size)); have U1 := Hd.mk hd3; have U2 := Hd.mk (V2.out.below hb); clear hc3 hd3 hb hf3))
    clear c0 c1 c2 c3 c4 c5
    have c0 := P4.out.c0; have c1 := P4.out.c1; have c2 := P4.out.c2; have c3 := P4.out.c3; have c4 := P4.out.c4; have c5 := P4.out.c5
    go_wp2_with fail
    refine (HN.out _ _ _ D4.out).mono ?_
    rintro en w5 ⟨rfl, hb⟩
    have B5 := Hd.mk (B4.out.trans (hb.mono B4.out.size))
    clear hb
    go_wp2_with fail
    go_ret
    exact ⟨ret_int (by rw [HR.out]), B5.out⟩

end Go.Proofs.Ytjhkjekbadbgnaa

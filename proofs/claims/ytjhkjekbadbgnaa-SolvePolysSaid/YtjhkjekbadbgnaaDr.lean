/- The walk of the reference's Plus, where digits are taken away. -/
import Derived.Test.YtjhkjekbadbgnaaDq
namespace Go.Proofs.Ytjhkjekbadbgnaa
open Go.RowKit
set_option linter.unusedSimpArgs false
set_option linter.unusedVariables false

theorem PC.drewN {w : World} {b : Nat} {s : Bool} {a : Option Addr} {N c : Nat} {e : Int} {s' : Bool} {a' : Option Addr} {N' c' : Nat} {e' : Int} (h : PC w b s a N c e s' a' N' c' e') (k : Nat) : PC (w.drewN k) b s a N c e s' a' N' c' e' :=
  ⟨h.c0, h.c1, h.c2, h.c3, h.c4, h.c5, h.r0, h.r1, h.r2, h.f0, h.sz⟩

theorem PC.drew {w : World} {b : Nat} {s : Bool} {a : Option Addr} {N c : Nat} {e : Int} {s' : Bool} {a' : Option Addr} {N' c' : Nat} {e' : Int} (h : PC w b s a N c e s' a' N' c' e') : PC w.drew b s a N c e s' a' N' c' e' :=
  ⟨h.c0, h.c1, h.c2, h.c3, h.c4, h.c5, h.r0, h.r1, h.r2, h.f0, h.sz⟩

theorem cmpN_eq {x y : Nat} (h : x = y) : cmpN x y = 0 := by unfold cmpN; rw [if_neg (by omega), if_neg (by omega)]
theorem cmpN_gt {x y : Nat} (h : y < x) : cmpN x y = 1 := by unfold cmpN; rw [if_neg (by omega), if_pos h]
theorem cmpN_lt {x y : Nat} (h : x < y) : cmpN x y = -1 := by unfold cmpN; rw [if_pos h]



set_option maxHeartbeats 16000000 in
set_option maxRecDepth 100000 in
theorem plus_2 (s : Bool) (a : Option Addr) (N c : Nat) (e : Int) (s' : Bool) (a' : Option Addr) (N' c' : Nat) (e' : Int) (w : World) (X Y A B : Nat) (E : Int) (H : Hd (Dgs w a X)) (H' : Hd (Dgs w a' Y))
    (HBo : Hd (∀ w, Calls Try.prog 102 #[.agg #[.bool s, .slice a N c, .int .i64 e], .agg #[.bool s', .slice a' N' c', .int .i64 e']] w fun en w' => en = .returned (.int .i64 E) ∧ Below w.heap.size w w'))
    (HLo : Hd (∀ w, Dgs w a X → Calls Try.prog 103 #[.agg #[.bool s, .slice a N c, .int .i64 e], .int .i64 E] w (DRet A w)))
    (HLo' : Hd (∀ w, Dgs w a' Y → Calls Try.prog 103 #[.agg #[.bool s', .slice a' N' c', .int .i64 e'], .int .i64 E] w (DRet B w)))
    (hA : nd A ≤ 100000) (hB : nd B ≤ 100000) (h0 : s ≠ s') (h1 : A ≠ 0) (h2 : B ≠ 0) :
    Calls Try.prog 89 #[.agg #[.bool s, .slice a N c, .int .i64 e], .agg #[.bool s', .slice a' N' c', .int .i64 e']] w
      (NRet (if A = B then false else if B < A then s else s') (if A = B then 0 else if B < A then A - B else B - A) (if A = B then 0 else E) w) := by
  have HCM : Hd (∀ w a1 k1 a2 k2, Dgs w a1 A → Dgs w a2 B → Calls Try.prog 105 #[.slice a1 (nd A) k1, .slice a2 (nd B) k2] w fun e w' => ∃ k, e = .returned (.int .i64 (cmpN A B)) ∧ w' = w.drewN k) := ⟨fun w a1 k1 a2 k2 h h' => cmpDigits_any a1 A k1 a2 B k2 w h h' (by omega) (by omega)⟩
  have HSU : Hd (B ≤ A → ∀ w a1 k1 a2 k2, Dgs w a1 A → Dgs w a2 B → Calls Try.prog 106 #[.slice a1 (nd A) k1, .slice a2 (nd B) k2] w (DRet (A - B) w)) := ⟨fun hle w a1 k1 a2 k2 h h' => subDigits_any a1 A k1 a2 B k2 w h h' (by omega) (by omega) hle⟩
  have HSU' : Hd (A ≤ B → ∀ w a1 k1 a2 k2, Dgs w a1 B → Dgs w a2 A → Calls Try.prog 106 #[.slice a1 (nd B) k1, .slice a2 (nd A) k2] w (DRet (B - A) w)) := ⟨fun hle w a1 k1 a2 k2 h h' => subDigits_any a1 B k1 a2 A k2 w h h' (by omega) (by omega) hle⟩
  have t1 : (s == s') = false := by rw [beq_eq_false_iff_ne]; exact h0
  have t2 : ((nd A : Int) == 0) = false := by rw [beq_eq_false_iff_ne]; have := nd_pos h1; omega
  have t3 : ((nd B : Int) == 0) = false := by rw [beq_eq_false_iff_ne]; have := nd_pos h2; omega
  unfold DRet at HLo HLo'
  rcases Nat.lt_trichotomy A B with hlt | heq | hgt
  · rw [if_neg (by omega), if_neg (by omega), if_neg (by omega), if_neg (by omega), if_neg (by omega)]
    rw [cmpN_lt hlt] at HCM
    have HSB := Hd.mk (HSU'.out (Nat.le_of_lt hlt))
    generalize B - A = K at *
    generalize nd A = nA at *
    generalize nd B = nB at *
    clear HSU HSU' h0 h1 h2 hlt
    go_enter Try.func89, Try.ntmps89
    go_wp2_with fail
    refine (HBo.out _).mono ?_; rintro en w1 ⟨rfl, hb⟩
    have P1 : Hd (PC w1 w.heap.size s a N c e s' a' N' c' e') := ⟨PC.below ⟨by go_simp, by go_simp, by go_simp, by go_simp, by go_simp, by go_simp, by go_simp, by go_simp, by go_simp, fun o => by go_simp, by simp⟩ hb⟩
    have B1 : Hd (Below w.heap.size w w1) := ⟨(below_3 w _ _ _).trans (hb.mono (by simp; omega))⟩
    clear hb
    have c0 := (P1.out).c0
    have c1 := (P1.out).c1
    have c2 := (P1.out).c2
    have c3 := (P1.out).c3
    have c4 := (P1.out).c4
    have c5 := (P1.out).c5
    have r0 := (P1.out).r0
    have r1 := (P1.out).r1
    have r2 := (P1.out).r2
    have f0 := (P1.out).f0
    go_wp2_with fail
    clear c0 c1 c2 c3 c4 c5 r0 r1 r2 f0
    refine (HLo.out _ (H.out.below B1.out)).mono ?_; rintro en w2 ⟨a1, k1, rfl, hc, hd, hb, hf⟩
    have P2 := Hd.mk (P1.out.below hb)
    have B2 := Hd.mk (B1.out.trans (hb.mono B1.out.size))
    have D1 := Hd.mk hd
    clear hc hd hb hf
    have c0 := (P2.out).c0
    have c1 := (P2.out).c1
    have c2 := (P2.out).c2
    have c3 := (P2.out).c3
    have c4 := (P2.out).c4
    have c5 := (P2.out).c5
    have r0 := (P2.out).r0
    have r1 := (P2.out).r1
    have r2 := (P2.out).r2
    have f0 := (P2.out).f0
    go_wp2_with fail
    clear c0 c1 c2 c3 c4 c5 r0 r1 r2 f0
    refine (HLo'.out _ (H'.out.below B2.out)).mono ?_; rintro en w3 ⟨a2, k2, rfl, hc, hd, hb, hf⟩
    have P3 := Hd.mk (P2.out.below hb)
    have B3 := Hd.mk (B2.out.trans (hb.mono B2.out.size))
    have D2 := Hd.mk hd
    have D1' := Hd.mk (D1.out.below hb)
    clear hc hd hb hf
    have c0 := (P3.out).c0
    have c1 := (P3.out).c1
    have c2 := (P3.out).c2
    have c3 := (P3.out).c3
    have c4 := (P3.out).c4
    have c5 := (P3.out).c5
    have r0 := (P3.out).r0
    have r1 := (P3.out).r1
    have r2 := (P3.out).r2
    have f0 := (P3.out).f0
    go_wp2_with fail
    clear c0 c1 c2 c3 c4 c5 r0 r1 r2 f0
    all_goals
      refine (HCM.out w3 a1 k1 a2 k2 D1'.out D2.out).mono ?_
      rintro en w4 ⟨kk, rfl, rfl⟩
      have P4 := Hd.mk (P3.out.drewN kk)
      have c0 := (P4.out).c0
      have c1 := (P4.out).c1
      have c2 := (P4.out).c2
      have c3 := (P4.out).c3
      have c4 := (P4.out).c4
      have c5 := (P4.out).c5
      have r0 := (P4.out).r0
      have r1 := (P4.out).r1
      have r2 := (P4.out).r2
      have f0 := (P4.out).f0
      go_wp2_with fail
      have U1 : Hd (Dgs (w3.drewN kk).drew a1 A) := ⟨D1'.out.keep fun _ _ _ h => h⟩
      have U2 : Hd (Dgs (w3.drewN kk).drew a2 B) := ⟨D2.out.keep fun _ _ _ h => h⟩
      go_region_held3 (fun w' => w'.cell? ⟨w.heap.size, 0, none⟩ = some (.bool s) ∧ w'.cell? ⟨w.heap.size + 1, 0, none⟩ = some (.bool s')) (first | exact ⟨c0, c3⟩ | exact ⟨d0, d3⟩ | (refine ⟨?_, ?_⟩ <;> go_simp)) (first | (go_at_call 106; refine (HSB.out _ a2 k2 a1 k1 U2.out U1.out).mono ?_; rintro en w4 ⟨a4, k4, rfl, hc, hd, hb, hf⟩; have HS3 := P4.out.sz; have P5 := P4.out.drew.below hb; have d0 := P5.c0; have d3 := P5.c3; have q0 := P5.r0; have q1 := P5.r1; have q2 := P5.r2; have g0 := P5.f0; have B4 := Hd.mk ((below_drewN B3.out kk).drew.trans (hb.mono B3.out.size)); have D4 := Hd.mk hd; have F4 : Hd (∀ b o v, a4 = some ⟨b, o, v⟩ → w.heap.size + 1 + 1 < b) := ⟨fun b o v e => by have h1 := hf b o v e; have h2 : w3.heap.size ≤ b := h1; have h3 : w.heap.size + 1 + 1 < w3.heap.size := HS3; omega⟩; clear hc hd hb hf HS3 P5))
      go_wp2_with fail
      refine bodyPost_ret (v := .agg #[.bool s', .slice a4 (nd K) k4, .int .i64 E]) ?_ rfl ⟨a4, k4, rfl, ?_, ?_⟩
      · simp [results, Try.results89, go_sem, q0, q1, q2]
      · repeat (refine Dgs.setOther ?_ F4.out _ _)
        exact D4.out
      · repeat (refine Below.setCell ?_ (by show w.heap.size ≤ w.heap.size + 1 + 1; omega) _)
        exact B4.out
  · rw [if_pos heq, if_pos heq, if_pos heq]
    rw [cmpN_eq heq] at HCM
    generalize nd A = nA at *
    generalize nd B = nB at *
    clear HSU HSU' h0 h1 h2 heq
    go_enter Try.func89, Try.ntmps89
    go_wp2_with fail
    refine (HBo.out _).mono ?_; rintro en w1 ⟨rfl, hb⟩
    have P1 : Hd (PC w1 w.heap.size s a N c e s' a' N' c' e') := ⟨PC.below ⟨by go_simp, by go_simp, by go_simp, by go_simp, by go_simp, by go_simp, by go_simp, by go_simp, by go_simp, fun o => by go_simp, by simp⟩ hb⟩
    have B1 : Hd (Below w.heap.size w w1) := ⟨(below_3 w _ _ _).trans (hb.mono (by simp; omega))⟩
    clear hb
    have c0 := (P1.out).c0
    have c1 := (P1.out).c1
    have c2 := (P1.out).c2
    have c3 := (P1.out).c3
    have c4 := (P1.out).c4
    have c5 := (P1.out).c5
    have r0 := (P1.out).r0
    have r1 := (P1.out).r1
    have r2 := (P1.out).r2
    have f0 := (P1.out).f0
    go_wp2_with fail
    clear c0 c1 c2 c3 c4 c5 r0 r1 r2 f0
    refine (HLo.out _ (H.out.below B1.out)).mono ?_; rintro en w2 ⟨a1, k1, rfl, hc, hd, hb, hf⟩
    have P2 := Hd.mk (P1.out.below hb)
    have B2 := Hd.mk (B1.out.trans (hb.mono B1.out.size))
    have D1 := Hd.mk hd
    clear hc hd hb hf
    have c0 := (P2.out).c0
    have c1 := (P2.out).c1
    have c2 := (P2.out).c2
    have c3 := (P2.out).c3
    have c4 := (P2.out).c4
    have c5 := (P2.out).c5
    have r0 := (P2.out).r0
    have r1 := (P2.out).r1
    have r2 := (P2.out).r2
    have f0 := (P2.out).f0
    go_wp2_with fail
    clear c0 c1 c2 c3 c4 c5 r0 r1 r2 f0
    refine (HLo'.out _ (H'.out.below B2.out)).mono ?_; rintro en w3 ⟨a2, k2, rfl, hc, hd, hb, hf⟩
    have P3 := Hd.mk (P2.out.below hb)
    have B3 := Hd.mk (B2.out.trans (hb.mono B2.out.size))
    have D2 := Hd.mk hd
    have D1' := Hd.mk (D1.out.below hb)
    clear hc hd hb hf
    have c0 := (P3.out).c0
    have c1 := (P3.out).c1
    have c2 := (P3.out).c2
    have c3 := (P3.out).c3
    have c4 := (P3.out).c4
    have c5 := (P3.out).c5
    have r0 := (P3.out).r0
    have r1 := (P3.out).r1
    have r2 := (P3.out).r2
    have f0 := (P3.out).f0
    go_wp2_with fail
    clear c0 c1 c2 c3 c4 c5 r0 r1 r2 f0
    all_goals
      refine (HCM.out w3 a1 k1 a2 k2 D1'.out D2.out).mono ?_
      rintro en w4 ⟨kk, rfl, rfl⟩
      have P4 := Hd.mk (P3.out.drewN kk)
      have c0 := (P4.out).c0
      have c1 := (P4.out).c1
      have c2 := (P4.out).c2
      have c3 := (P4.out).c3
      have c4 := (P4.out).c4
      have c5 := (P4.out).c5
      have r0 := (P4.out).r0
      have r1 := (P4.out).r1
      have r2 := (P4.out).r2
      have f0 := (P4.out).f0
      go_wp2_with fail
      refine bodyPost_ret (v := .agg #[.bool false, .slice none 0 0, .int .i64 0]) ?_ rfl ⟨none, 0, rfl, Dgs.zero _, ?_⟩
      · simp [results, Try.results89, go_sem, r0, r1, r2]
      · repeat (refine Below.setCell ?_ (by show w.heap.size ≤ w.heap.size + 1 + 1; omega) _)
        exact below_drewN B3.out kk
  · rw [if_neg (by omega), if_pos hgt, if_neg (by omega), if_pos hgt, if_neg (by omega)]
    rw [cmpN_gt hgt] at HCM
    have HSB := Hd.mk (HSU.out (Nat.le_of_lt hgt))
    generalize A - B = K at *
    generalize nd A = nA at *
    generalize nd B = nB at *
    clear HSU HSU' h0 h1 h2 hgt
    go_enter Try.func89, Try.ntmps89
    go_wp2_with fail
    refine (HBo.out _).mono ?_; rintro en w1 ⟨rfl, hb⟩
    have P1 : Hd (PC w1 w.heap.size s a N c e s' a' N' c' e') := ⟨PC.below ⟨by go_simp, by go_simp, by go_simp, by go_simp, by go_simp, by go_simp, by go_simp, by go_simp, by go_simp, fun o => by go_simp, by simp⟩ hb⟩
    have B1 : Hd (Below w.heap.size w w1) := ⟨(below_3 w _ _ _).trans (hb.mono (by simp; omega))⟩
    clear hb
    have c0 := (P1.out).c0
    have c1 := (P1.out).c1
    have c2 := (P1.out).c2
    have c3 := (P1.out).c3
    have c4 := (P1.out).c4
    have c5 := (P1.out).c5
    have r0 := (P1.out).r0
    have r1 := (P1.out).r1
    have r2 := (P1.out).r2
    have f0 := (P1.out).f0
    go_wp2_with fail
    clear c0 c1 c2 c3 c4 c5 r0 r1 r2 f0
    refine (HLo.out _ (H.out.below B1.out)).mono ?_; rintro en w2 ⟨a1, k1, rfl, hc, hd, hb, hf⟩
    have P2 := Hd.mk (P1.out.below hb)
    have B2 := Hd.mk (B1.out.trans (hb.mono B1.out.size))
    have D1 := Hd.mk hd
    clear hc hd hb hf
    have c0 := (P2.out).c0
    have c1 := (P2.out).c1
    have c2 := (P2.out).c2
    have c3 := (P2.out).c3
    have c4 := (P2.out).c4
    have c5 := (P2.out).c5
    have r0 := (P2.out).r0
    have r1 := (P2.out).r1
    have r2 := (P2.out).r2
    have f0 := (P2.out).f0
    go_wp2_with fail
    clear c0 c1 c2 c3 c4 c5 r0 r1 r2 f0
    refine (HLo'.out _ (H'.out.below B2.out)).mono ?_; rintro en w3 ⟨a2, k2, rfl, hc, hd, hb, hf⟩
    have P3 := Hd.mk (P2.out.below hb)
    have B3 := Hd.mk (B2.out.trans (hb.mono B2.out.size))
    have D2 := Hd.mk hd
    have D1' := Hd.mk (D1.out.below hb)
    clear hc hd hb hf
    have c0 := (P3.out).c0
    have c1 := (P3.out).c1
    have c2 := (P3.out).c2
    have c3 := (P3.out).c3
    have c4 := (P3.out).c4
    have c5 := (P3.out).c5
    have r0 := (P3.out).r0
    have r1 := (P3.out).r1
    have r2 := (P3.out).r2
    have f0 := (P3.out).f0
    go_wp2_with fail
    clear c0 c1 c2 c3 c4 c5 r0 r1 r2 f0
    all_goals
      refine (HCM.out w3 a1 k1 a2 k2 D1'.out D2.out).mono ?_
      rintro en w4 ⟨kk, rfl, rfl⟩
      have P4 := Hd.mk (P3.out.drewN kk)
      have c0 := (P4.out).c0
      have c1 := (P4.out).c1
      have c2 := (P4.out).c2
      have c3 := (P4.out).c3
      have c4 := (P4.out).c4
      have c5 := (P4.out).c5
      have r0 := (P4.out).r0
      have r1 := (P4.out).r1
      have r2 := (P4.out).r2
      have f0 := (P4.out).f0
      go_wp2_with fail
      have U1 : Hd (Dgs (w3.drewN kk).drew a1 A) := ⟨D1'.out.keep fun _ _ _ h => h⟩
      have U2 : Hd (Dgs (w3.drewN kk).drew a2 B) := ⟨D2.out.keep fun _ _ _ h => h⟩
      go_region_held3 (fun w' => w'.cell? ⟨w.heap.size, 0, none⟩ = some (.bool s) ∧ w'.cell? ⟨w.heap.size + 1, 0, none⟩ = some (.bool s')) (first | exact ⟨c0, c3⟩ | exact ⟨d0, d3⟩ | (refine ⟨?_, ?_⟩ <;> go_simp)) (first | (go_at_call 106; refine (HSB.out _ a1 k1 a2 k2 U1.out U2.out).mono ?_; rintro en w4 ⟨a4, k4, rfl, hc, hd, hb, hf⟩; have HS3 := P4.out.sz; have P5 := P4.out.drew.below hb; have d0 := P5.c0; have d3 := P5.c3; have q0 := P5.r0; have q1 := P5.r1; have q2 := P5.r2; have g0 := P5.f0; have B4 := Hd.mk ((below_drewN B3.out kk).drew.trans (hb.mono B3.out.size)); have D4 := Hd.mk hd; have F4 : Hd (∀ b o v, a4 = some ⟨b, o, v⟩ → w.heap.size + 1 + 1 < b) := ⟨fun b o v e => by have h1 := hf b o v e; have h2 : w3.heap.size ≤ b := h1; have h3 : w.heap.size + 1 + 1 < w3.heap.size := HS3; omega⟩; clear hc hd hb hf HS3 P5))
      go_wp2_with fail
      refine bodyPost_ret (v := .agg #[.bool s, .slice a4 (nd K) k4, .int .i64 E]) ?_ rfl ⟨a4, k4, rfl, ?_, ?_⟩
      · simp [results, Try.results89, go_sem, q0, q1, q2]
      · repeat (refine Dgs.setOther ?_ F4.out _ _)
        exact D4.out
      · repeat (refine Below.setCell ?_ (by show w.heap.size ≤ w.heap.size + 1 + 1; omega) _)
        exact B4.out

/-- Plus, as a whole. -/
theorem plus_any (s : Bool) (a : Option Addr) (d c : Nat) (e : Int) (s' : Bool) (a' : Option Addr) (d' c' : Nat) (e' : Int) (w : World) (h : Dgs w a d) (h' : Dgs w a' d') (hs : nd d ≤ 10000) (hs' : nd d' ≤ 10000) (he : -5000 ≤ e ∧ e ≤ 5000) (he' : -5000 ≤ e' ∧ e' ≤ 5000) :
    Calls Try.prog 89 #[.agg #[.bool s, .slice a (nd d) c, .int .i64 e], .agg #[.bool s', .slice a' (nd d') c', .int .i64 e']] w
      (NRet (sumS s (lowN d e (plE d e d' e')) s' (lowN d' e' (plE d e d' e'))) (sumD s (lowN d e (plE d e d' e')) s' (lowN d' e' (plE d e d' e'))) (sumE s (lowN d e (plE d e d' e')) s' (lowN d' e' (plE d e d' e')) (plE d e d' e')) w) := by
  obtain ⟨E, hE⟩ : ∃ E, plE d e d' e' = E := ⟨_, rfl⟩
  have e1 : d ≠ 0 → E ≤ e := by intro h0; rw [← hE]; unfold plE; rw [if_neg h0]; split <;> omega
  have e2 : d' ≠ 0 → E ≤ e' := by intro h0; rw [← hE]; unfold plE; rw [if_neg h0]; split <;> omega
  have e3 : -5000 ≤ E ∧ E ≤ 5000 := by rw [← hE]; unfold plE; split; omega; split; omega; omega
  have HBo : Hd (∀ w, Calls Try.prog 102 #[.agg #[.bool s, .slice a (nd d) c, .int .i64 e], .agg #[.bool s', .slice a' (nd d') c', .int .i64 e']] w fun en w' => en = .returned (.int .i64 E) ∧ Below w.heap.size w w') := ⟨fun w => by rw [← hE]; exact both_any s a d c e s' a' d' c' e' w (by omega) (by omega)⟩
  have HLo : Hd (∀ w, Dgs w a d → Calls Try.prog 103 #[.agg #[.bool s, .slice a (nd d) c, .int .i64 e], .int .i64 E] w (DRet (lowN d e E) w)) := ⟨fun w h => low_any s a d c e E w h (by omega) e1 (by omega) (by omega)⟩
  have HLo' : Hd (∀ w, Dgs w a' d' → Calls Try.prog 103 #[.agg #[.bool s', .slice a' (nd d') c', .int .i64 e'], .int .i64 E] w (DRet (lowN d' e' E) w)) := ⟨fun w h => low_any s' a' d' c' e' E w h (by omega) e2 (by omega) (by omega)⟩
  have n1 : nd (lowN d e E) ≤ 100000 := nd_shift _ _ _ (by omega)
  have n2 : nd (lowN d' e' E) ≤ 100000 := nd_shift _ _ _ (by omega)
  rw [hE]
  by_cases hP : s = s' ∨ lowN d e E = 0 ∨ lowN d' e' E = 0
  · unfold sumS sumD sumE
    rw [if_pos hP, if_pos hP, if_pos hP]
    exact plus_1 s a (nd d) c e s' a' (nd d') c' e' w d d' _ _ E _ ⟨h⟩ ⟨h'⟩ HBo HLo HLo' n1 n2 hP rfl
  · unfold sumS sumD sumE
    rw [if_neg hP, if_neg hP, if_neg hP]
    exact plus_2 s a (nd d) c e s' a' (nd d') c' e' w d d' _ _ E ⟨h⟩ ⟨h'⟩ HBo HLo HLo' n1 n2 (fun h => hP (.inl h)) (fun h => hP (.inr (.inl h))) (fun h => hP (.inr (.inr h)))

end Go.Proofs.Ytjhkjekbadbgnaa

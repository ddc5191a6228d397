/- The walk of the reference's Times. -/
import Derived.Test.YtjhkjekbadbgnaaDo
namespace Go.Proofs.Ytjhkjekbadbgnaa
open Go.RowKit
set_option linter.unusedSimpArgs false
set_option linter.unusedVariables false

theorem zero_t (s : Bool) (a : Option Addr) (d c : Nat) (e : Int) (hd : nd d ≤ 1073741824) (h : d = 0) (w : World) :
    Calls Try.prog 85 #[.agg #[.bool s, .slice a (nd d) c, .int .i64 e]] w fun en w' => en = .returned (.bool true) ∧ Below w.heap.size w w' := by
  have := zero_any s a d c e w hd
  rwa [show (d == 0) = true by rw [beq_iff_eq]; exact h] at this
theorem zero_f (s : Bool) (a : Option Addr) (d c : Nat) (e : Int) (hd : nd d ≤ 1073741824) (h : d ≠ 0) (w : World) :
    Calls Try.prog 85 #[.agg #[.bool s, .slice a (nd d) c, .int .i64 e]] w fun en w' => en = .returned (.bool false) ∧ Below w.heap.size w w' := by
  have := zero_any s a d c e w hd
  rwa [show (d == 0) = false by rw [beq_eq_false_iff_ne]; exact h] at this

/-- Three boxes are made. -/
theorem below_3 (w : World) (o1 o2 o3 : Obj) : Below w.heap.size w (((w.alloc o1).alloc o2).alloc o3) :=
  (((Below.refl _ _).alloc (Nat.le_refl _) _).alloc (by simp) _).alloc (by simp; omega) _

set_option maxHeartbeats 3200000 in
theorem times_any (s : Bool) (a : Option Addr) (d c : Nat) (e : Int) (s' : Bool) (a' : Option Addr) (d' c' : Nat) (e' : Int) (w : World) (h : Dgs w a d) (h' : Dgs w a' d') (hs : nd d ≤ 536870912) (hs' : nd d' ≤ 536870912) (he : -100000 ≤ e ∧ e ≤ 100000) (he' : -100000 ≤ e' ∧ e' ≤ 100000) :
    Calls Try.prog 90 #[.agg #[.bool s, .slice a (nd d) c, .int .i64 e], .agg #[.bool s', .slice a' (nd d') c', .int .i64 e']] w
      (NRet ((s != s') && !(d * d' == 0)) (d * d') (if d * d' = 0 then 0 else e + e') w) := by
  by_cases h0 : d = 0
  · have HZ := Hd.mk (zero_t s a d c e (by omega) h0)
    rw [h0, Nat.zero_mul, if_pos rfl, show ((s != s') && !(0 == 0)) = false by simp, ← h0]
    have HD0 := Hd.mk h0
    clear h h' he he' h0
    generalize nd d = N at *
    generalize nd d' = N' at *
    go_enter Try.func90, Try.ntmps90
    go_wp2_with fail
    refine (HZ.out _).mono ?_; rintro en w' ⟨rfl, hb⟩
    have hk := cellb hb w.heap.size (by simp; omega)
    have hk2 := cellb hb (w.heap.size + 1) (by simp)
    have hk3 := cellb hb (w.heap.size + 1 + 1) (by simp)
    have hz := hb.size
    simp at hz
    have HB : Hd (Below w.heap.size w w') := ⟨(below_3 w _ _ _).trans (hb.mono (by simp; omega))⟩
    clear hb
    go_wp2_with fail
    exact bodyPost_ret (v := .agg #[.bool false, .slice none 0 0, .int .i64 0]) (by simp [results, Try.results90, go_sem, hk3]) rfl ⟨none, 0, by rw [HD0.out]; rfl, by rw [HD0.out]; exact Dgs.zero _, by (repeat (refine Below.setCell ?_ (by simp; try omega) _)); exact HB.out⟩
  · by_cases h1 : d' = 0
    · have HZ := Hd.mk (zero_f s a d c e (by omega) h0)
      have HZ' := Hd.mk (zero_t s' a' d' c' e' (by omega) h1)
      rw [h1, Nat.mul_zero, if_pos rfl, show ((s != s') && !(0 == 0)) = false by simp, ← h1]
      have HD0 := Hd.mk h1
      clear h h' he he' h0 h1
      generalize nd d = N at *
      generalize nd d' = N' at *
      go_enter Try.func90, Try.ntmps90
      go_wp2_with fail
      refine (HZ.out _).mono ?_; rintro en w' ⟨rfl, hb⟩
      have hk := cellb hb w.heap.size (by simp; omega)
      have hk2 := cellb hb (w.heap.size + 1) (by simp)
      have hk3 := cellb hb (w.heap.size + 1 + 1) (by simp)
      have hz := hb.size
      simp at hz
      have HB : Hd (Below w.heap.size w w') := ⟨(below_3 w _ _ _).trans (hb.mono (by simp; omega))⟩
      clear hb
      go_wp2_with fail
      refine (HZ'.out _).mono ?_; rintro en w2 ⟨rfl, hb⟩
      have hk4 := cellb hb w.heap.size (by omega)
      have hk5 := cellb hb (w.heap.size + 1) (by omega)
      have hk6 := cellb hb (w.heap.size + 1 + 1) (by omega)
      have HB2 : Hd (Below w.heap.size w w2) := ⟨HB.out.trans (hb.mono HB.out.size)⟩
      clear hb
      go_wp2_with fail
      exact bodyPost_ret (v := .agg #[.bool false, .slice none 0 0, .int .i64 0]) (by simp [results, Try.results90, go_sem, hk3, hk6]) rfl ⟨none, 0, by rw [HD0.out]; rfl, by rw [HD0.out]; exact Dgs.zero _, by (repeat (refine Below.setCell ?_ (by simp; try omega) _)); exact HB2.out⟩
    · have HZ := Hd.mk (zero_f s a d c e (by omega) h0)
      have HZ' := Hd.mk (zero_f s' a' d' c' e' (by omega) h1)
      have hm : d * d' ≠ 0 := Nat.mul_ne_zero h0 h1
      rw [if_neg hm, show ((s != s') && !(d * d' == 0)) = (s != s') by rw [show (d * d' == 0) = false by rw [beq_eq_false_iff_ne]; exact hm]; simp]
      have HM : Hd (∀ w, Dgs w a d → Dgs w a' d' → Calls Try.prog 107 #[.slice a (nd d) c, .slice a' (nd d') c'] w (DRet (d * d') w)) := ⟨fun w h h' => mulDigits_any a d c a' d' c' w h h' hs hs'⟩
      have H := Hd.mk h
      have H' := Hd.mk h'
      clear h h' h0 h1 hm hs hs'
      generalize d * d' = K at *
      generalize nd d = N at *
      generalize nd d' = N' at *
      go_enter Try.func90, Try.ntmps90
      go_wp2_with fail
      refine (HZ.out _).mono ?_; rintro en w' ⟨rfl, hb⟩
      have hk := cellb hb w.heap.size (by simp; omega)
      have hk2 := cellb hb (w.heap.size + 1) (by simp)
      have hk3 := cellb hb (w.heap.size + 1 + 1) (by simp)
      have hz := hb.size
      simp at hz
      have HB : Hd (Below w.heap.size w w') := ⟨(below_3 w _ _ _).trans (hb.mono (by simp; omega))⟩
      clear hb
      go_wp2_with fail
      refine (HZ'.out _).mono ?_; rintro en w2 ⟨rfl, hb⟩
      have hk4 := cellb hb w.heap.size (by omega)
      have hk5 := cellb hb (w.heap.size + 1) (by omega)
      have hk6 := cellb hb (w.heap.size + 1 + 1) (by omega)
      have hz2 := hb.size
      have HB2 : Hd (Below w.heap.size w w2) := ⟨HB.out.trans (hb.mono HB.out.size)⟩
      clear hb
      go_wp2_with fail
      have c0 : w2.cell? ⟨w.heap.size, 0, none⟩ = some (.bool s) := by go_simp
      have c1 : w2.cell? ⟨w.heap.size, 1, none⟩ = some (.slice a N c) := by go_simp
      have c2 : w2.cell? ⟨w.heap.size, 2, none⟩ = some (.int .i64 e) := by go_simp
      have c3 : w2.cell? ⟨w.heap.size + 1, 0, none⟩ = some (.bool s') := by go_simp
      have c4 : w2.cell? ⟨w.heap.size + 1, 1, none⟩ = some (.slice a' N' c') := by go_simp
      have c5 : w2.cell? ⟨w.heap.size + 1, 2, none⟩ = some (.int .i64 e') := by go_simp
      have r0 : w2.cell? ⟨w.heap.size + 1 + 1, 0, none⟩ = some (.bool false) := by go_simp
      have r1 : w2.cell? ⟨w.heap.size + 1 + 1, 1, none⟩ = some (.slice none 0 0) := by go_simp
      have r2 : w2.cell? ⟨w.heap.size + 1 + 1, 2, none⟩ = some (.int .i64 0) := by go_simp
      have f0 : ∀ o, w2.frozen? ⟨w.heap.size + 1 + 1, o, none⟩ = false := fun o => by go_simp
      clear hk hk2 hk3 hk4 hk5 hk6
      have BW : w.heap.size + 1 + 1 + 1 ≤ w2.heap.size := by omega
      have HBW := Hd.mk BW
      clear BW hz hz2
      have G := Hd.mk (H.out.below HB2.out)
      have G' := Hd.mk (H'.out.below HB2.out)
      have GD : Hd (Dgs w2.drew a d) := ⟨G.out.keep fun _ _ _ h => h⟩
      have GD' : Hd (Dgs w2.drew a' d') := ⟨G'.out.keep fun _ _ _ h => h⟩
      have hw : ((s != s') = !(s == s')) := rfl
      have we : IntKind.i64.wrap (e + e') = e + e' := by rw [IntKind.wrap_i64]; omega
      go_region_held3 (fun w' => w'.cell? ⟨w.heap.size, 0, none⟩ = some (.bool s) ∧ w'.cell? ⟨w.heap.size, 1, none⟩ = some (.slice a N c) ∧ w'.cell? ⟨w.heap.size, 2, none⟩ = some (.int .i64 e) ∧ w'.cell? ⟨w.heap.size + 1, 0, none⟩ = some (.bool s') ∧ w'.cell? ⟨w.heap.size + 1, 1, none⟩ = some (.slice a' N' c') ∧ w'.cell? ⟨w.heap.size + 1, 2, none⟩ = some (.int .i64 e')) (first | exact ⟨c0, c1, c2, c3, c4, c5⟩ | exact ⟨d0, d1, d2, d3, d4, d5⟩ | (refine ⟨?_, ?_, ?_, ?_, ?_, ?_⟩ <;> go_simp)) (first | (
        go_at_call 107
        refine (HM.out _ GD.out GD'.out).mono ?_
        rintro en w3 ⟨a3, c3', rfl, hc3, hd3, hb3, hf3⟩
        have HBW3 := HBW.out
        have k0 := cellb hb3 w.heap.size (by show w.heap.size < w2.heap.size; omega)
        have k1 := cellb hb3 (w.heap.size + 1) (by show w.heap.size + 1 < w2.heap.size; omega)
        have k2 := cellb hb3 (w.heap.size + 1 + 1) (by show w.heap.size + 1 + 1 < w2.heap.size; omega)
        have d0 := (k0.1 _).trans c0
        have d1 := (k0.1 _).trans c1
        have d2 := (k0.1 _).trans c2
        have d3 := (k1.1 _).trans c3
        have d4 := (k1.1 _).trans c4
        have d5 := (k1.1 _).trans c5
        have q0 : w3.cell? ⟨w.heap.size + 1 + 1, 0, none⟩ = some (.bool false) := (k2.1 _).trans r0
        have q1 : w3.cell? ⟨w.heap.size + 1 + 1, 1, none⟩ = some (.slice none 0 0) := (k2.1 _).trans r1
        have q2 : w3.cell? ⟨w.heap.size + 1 + 1, 2, none⟩ = some (.int .i64 0) := (k2.1 _).trans r2
        have g0 : ∀ o, w3.frozen? ⟨w.heap.size + 1 + 1, o, none⟩ = false := fun o => (k2.2 o).trans (f0 o)
        have HD3 := Hd.mk hd3
        have HB3 : Hd (Below w.heap.size w w3) := ⟨HB2.out.drew.trans (hb3.mono HB2.out.size)⟩
        have HF3 : Hd (∀ b o v, a3 = some ⟨b, o, v⟩ → w.heap.size + 1 + 1 < b) := ⟨fun b o v e => by have h1 := hf3 b o v e; have h2 : w2.heap.size ≤ b := h1; omega⟩
        clear k0 k1 k2 hd3 hb3 hf3 hc3 HBW3))
      go_wp2_with fail
      refine bodyPost_ret (v := .agg #[.bool (!(s == s')), .slice a3 (nd K) c3', .int .i64 (e + e')]) (by simp [results, Try.results90, go_sem, q0, q1, q2]) rfl ⟨a3, c3', rfl, ?_, ?_⟩
      · repeat (refine Dgs.setOther ?_ HF3.out _ _)
        exact HD3.out
      · repeat (refine Below.setCell ?_ (by show w.heap.size ≤ w.heap.size + 1 + 1; omega) _)
        exact HB3.out

end Go.Proofs.Ytjhkjekbadbgnaa

/- Plain: simple rates' factors fall as the rate and the span grow. No program. -/
import Derived.Test.YtpegicgahbambaaM8
namespace Go.Proofs.Ytpegicgahbambaa
set_option linter.unusedVariables false
set_option linter.unusedSimpArgs false

theorem mg_sgw0 (u v : Nat) : mg (sgw u v) = 0 := by
  unfold sgw; split
  · decide +kernel
  · decide +kernel

theorem fac1_ok (r t : Nat) (h : (facA 1 r t).2 = 0) : fin r = true ∧ okT t = true ∧ ltB 0 (rtB 1 r t) = true ∧ fin (rtF 1 r t) = true ∧ mg (rtF 1 r t) ≠ 0 ∧ (facA 1 r t).1 = rtF 1 r t := by
  have hk : okK 1 = true := by decide
  unfold facA at *
  rw [if_neg (by rw [hk]; decide)] at h ⊢
  cases h1 : (fin r && okT t)
  · rw [h1, if_pos rfl] at h; cases h
  rw [h1, if_neg (by decide)] at h
  rw [if_neg (by decide)]
  cases h2 : ltB 0 (rtB 1 r t)
  · rw [h2, if_pos rfl] at h; cases h
  rw [h2, if_neg (by decide)] at h
  rw [if_neg (by decide)]
  cases h3 : (fin (rtF 1 r t) && !(mg (rtF 1 r t) == 0))
  · rw [h3, if_pos rfl] at h; cases h
  rw [if_neg (by decide)]
  rw [Bool.and_eq_true] at h1 h3
  exact ⟨h1.1, h1.2, rfl, h3.1, by simpa using h3.2, rfl⟩

theorem fac1_fin (r t : Nat) (hr : F64 r) (ht : F64 t) (h : (facA 1 r t).2 = 0) : fin (fmul r t) = true ∧ fin (fadd oneW (fmul r t)) = true ∧ 0 < rk (fadd oneW (fmul r t)) := by
  obtain ⟨a, b, c, d, e, _⟩ := fac1_ok r t h
  rw [rt1B] at c
  rw [rt1F] at d e
  have ft := ((okT_iff t).1 b).1
  have hM := (rk_fmul r t hr ht a ft).2
  have FM := F64_fmul r t
  generalize fmul r t = M at *
  have FB := F64_fadd oneW M
  have hfin : ∀ B, F64 B → inf B = true → mg (fdiv oneW B) = 0 := fun B hB hi => by
    rw [fdiv_fi _ _ one_w.w hB one_w.f hi]; exact mg_sgw0 _ _
  have pos : 0 < rk (fadd oneW M) := by
    unfold ltB at c
    rw [z0_facts.2.2] at c
    simp at c
    exact c.2
  rcases ways M with ⟨h1, _, _⟩ | ⟨_, h1, _⟩ | ⟨_, _, h1⟩
  · rw [hM] at h1; cases h1
  · rw [fadd_fi _ _ one_w.w FM one_w.f h1] at e
    exact absurd (hfin M FM h1) e
  · refine ⟨h1, ?_, pos⟩
    rcases ways (fadd oneW M) with ⟨h2, _, _⟩ | ⟨_, h2, _⟩ | ⟨_, _, h2⟩
    · rw [(rk_fadd _ _ one_w.w FM one_w.f h1).2] at h2; cases h2
    · exact absurd (hfin _ FB h2) e
    · exact h2

theorem fac1_falls (r r' t t' : Nat) (hr : F64 r) (hr' : F64 r') (ht : F64 t) (ht' : F64 t') (h0 : 0 ≤ rk r) (hrr : rk r ≤ rk r') (htt : rk t ≤ rk t') (c : (facA 1 r t).2 = 0) (c' : (facA 1 r' t').2 = 0) :
    rk (facA 1 r' t').1 ≤ rk (facA 1 r t).1 := by
  obtain ⟨a, b, _, _, _, e⟩ := fac1_ok r t c
  obtain ⟨a', b', _, _, _, e'⟩ := fac1_ok r' t' c'
  rw [e, e', rt1F, rt1F]
  obtain ⟨f1, f2, f3⟩ := fac1_fin r t hr ht c
  obtain ⟨g1, g2, g3⟩ := fac1_fin r' t' hr' ht' c'
  obtain ⟨u1, u2, u3⟩ := (okT_iff t).1 b
  obtain ⟨v1, v2, v3⟩ := (okT_iff t').1 b'
  have hm := fmul_mono2 r r' t t' hr hr' ht ht' a a' u1 v1 hrr (by omega) htt (by omega)
  have hb := fadd_mono oneW oneW (fmul r t) (fmul r' t') one_w.w one_w.w (F64_fmul _ _) (F64_fmul _ _) one_w.f one_w.f f1 g1 (Int.le_refl _) hm
  exact fdiv_anti oneW _ _ one_w.w (F64_fadd _ _) (F64_fadd _ _) one_w.f f2 g2 (by decide +kernel) hb f3

theorem fac1_num (r t : Nat) (c : (facA 1 r t).2 = 0) : fin (facA 1 r t).1 = true := by
  obtain ⟨_, _, _, d, _, e⟩ := fac1_ok r t c
  rw [e]; exact d

-- The forward rate
theorem fwd_ok (n f t : Nat) (h : (fwdA n f t).2 = 0) : abv n = true ∧ abv f = true ∧ abv t = true ∧ fin (fwdQ n f t) = true ∧ (fwdA n f t).1 = fwdQ n f t := by
  rw [fwd_eq] at *
  cases h1 : (abv n && abv f && abv t)
  · rw [h1, if_pos rfl] at h; cases h
  rw [h1, if_neg (by decide)] at h
  rw [if_neg (by decide)]
  cases h2 : fin (fwdQ n f t)
  · rw [h2, if_pos rfl] at h; cases h
  rw [if_neg (by decide)]
  rw [Bool.and_eq_true, Bool.and_eq_true] at h1
  exact ⟨h1.1.1, h1.1.2, h1.2, rfl, rfl⟩

/-- What is divided and gives a number is a number. -/
theorem div_back (u v : Nat) (hu : F64 u) (hv : F64 v) (fv : fin v = true) (h : fin (fdiv u v) = true) : fin u = true := by
  rcases ways u with ⟨h1, _, _⟩ | ⟨_, h1, _⟩ | ⟨_, _, h1⟩
  · rw [fdiv_nl u v hu h1, show fin NaNc = false from by decide +kernel] at h; cases h
  · rw [fdiv_if u v hu hv h1 fv] at h
    have : fin (sgw u v + 9218868437227405312) = false := by
      unfold sgw; split
      · decide +kernel
      · decide +kernel
    rw [this] at h; cases h
  · exact h1

theorem sub_back (u v : Nat) (hu : F64 u) (hv : F64 v) (fv : fin v = true) (h : fin (fsub u v) = true) : fin u = true := by
  rw [← fsub_flip u v hv (nn_fin v fv)] at h
  have ff : fin (flip64 v) = true := by rw [fin_flip]; exact fv
  rcases ways u with ⟨h1, _, _⟩ | ⟨_, h1, h2⟩ | ⟨_, _, h1⟩
  · rw [fadd_nl u _ hu h1, show fin NaNc = false from by decide +kernel] at h; cases h
  · rw [fadd_if u _ hu (F64_flip v) h1 ff, h2] at h; cases h
  · exact h1

theorem fwd_fin (n f t : Nat) (hn : F64 n) (hf : F64 f) (ht : F64 t) (h : (fwdA n f t).2 = 0) :
    fin n = true ∧ 0 < rk n ∧ fin f = true ∧ 0 < rk f ∧ fin t = true ∧ 0 < rk t ∧ fin (fdiv n f) = true ∧ fin (fsub (fdiv n f) oneW) = true ∧ (fwdA n f t).1 = fdiv (fsub (fdiv n f) oneW) t := by
  obtain ⟨a, b, c, d, e⟩ := fwd_ok n f t h
  obtain ⟨a1, a2⟩ := okT_abv n a
  obtain ⟨b1, b2⟩ := okT_abv f b
  obtain ⟨c1, c2⟩ := okT_abv t c
  unfold fwdQ at d e
  have g := div_back _ t (F64_fsub _ _) ht c1 d
  exact ⟨a1, a2, b1, b2, c1, c2, sub_back _ oneW (F64_fdiv _ _) one_w.w one_w.f g, g, e⟩

theorem fwd_up (n n' f t : Nat) (hn : F64 n) (hn' : F64 n') (hf : F64 f) (ht : F64 t) (h : rk n ≤ rk n') (c : (fwdA n f t).2 = 0) (c' : (fwdA n' f t).2 = 0) :
    rk (fwdA n f t).1 ≤ rk (fwdA n' f t).1 := by
  obtain ⟨a1, a2, a3, a4, a5, a6, a7, a8, a9⟩ := fwd_fin n f t hn hf ht c
  obtain ⟨b1, b2, b3, b4, b5, b6, b7, b8, b9⟩ := fwd_fin n' f t hn' hf ht c'
  rw [a9, b9]
  have h1 := fdiv_mono n n' f hn hn' hf a1 b1 a3 h a4
  have h2 := fsub_mono _ _ oneW oneW (F64_fdiv n f) (F64_fdiv n' f) one_w.w one_w.w a7 b7 one_w.f one_w.f h1 (Int.le_refl _)
  exact fdiv_mono _ _ t (F64_fsub _ _) (F64_fsub _ _) ht a8 b8 a5 h2 a6

theorem fwd_down (n f f' t : Nat) (hn : F64 n) (hf : F64 f) (hf' : F64 f') (ht : F64 t) (h : rk f ≤ rk f') (c : (fwdA n f t).2 = 0) (c' : (fwdA n f' t).2 = 0) :
    rk (fwdA n f' t).1 ≤ rk (fwdA n f t).1 := by
  obtain ⟨a1, a2, a3, a4, a5, a6, a7, a8, a9⟩ := fwd_fin n f t hn hf ht c
  obtain ⟨b1, b2, b3, b4, b5, b6, b7, b8, b9⟩ := fwd_fin n f' t hn hf' ht c'
  rw [a9, b9]
  have h1 := fdiv_anti n f f' hn hf hf' a1 a3 b3 (by omega) h a4
  have h2 := fsub_mono _ _ oneW oneW (F64_fdiv n f') (F64_fdiv n f) one_w.w one_w.w b7 a7 one_w.f one_w.f h1 (Int.le_refl _)
  exact fdiv_mono _ _ t (F64_fsub _ _) (F64_fsub _ _) ht b8 a8 a5 h2 a6
theorem fwd_num (n f t : Nat) (h : (fwdA n f t).2 = 0) : fin (fwdA n f t).1 = true := by
  obtain ⟨a, b, c, d, e⟩ := fwd_ok n f t h
  rw [e]; exact d

end Go.Proofs.Ytpegicgahbambaa

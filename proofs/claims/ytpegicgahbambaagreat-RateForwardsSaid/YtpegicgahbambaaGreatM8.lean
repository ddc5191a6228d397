/- Put together out of several texts: Tp Tw Tv Tu Tr Ts Tq Ty Tx Tz. -/
import Derived.Test.YtpegicgahbambaaGreatM5
import Derived.Test.YtpegicgahbambaaGreatM7
import Derived.Test.YtpegicgahbambaaGreatM6
import Derived.Test.YtpegicgahbambaaGreatM4
import Derived.Deep.RegionHeld3

/- Plain: layer 9's factors and yields as functions of bits. No program. -/
namespace Go.Proofs.YtpegicgahbambaaGreat
set_option linter.unusedVariables false
set_option linter.unusedSimpArgs false

/-- A kind's m, as a float. -/
def rtM (k : Int) : Nat := if k = 2 then oneW else if k = 3 then twoW else if k = 4 then 4616189618054758400 else if k = 5 then 4622945017495814144 else 0
/-- What has to lie above 0. -/
def rtB (k : Int) (r t : Nat) : Nat := if k = 1 then fadd oneW (fmul r t) else if k = 6 then oneW else fadd oneW (fdiv r (rtM k))
def rtF (k : Int) (r t : Nat) : Nat := if k = 1 then fdiv oneW (rtB k r t) else if k = 6 then fexp (flip64 (fmul r t)) else fexp (flip64 (fmul (fmul (rtM k) t) (fln (rtB k r t))))
def rtY (k : Int) (f t : Nat) : Nat := if k = 1 then fdiv (fsub (fdiv oneW f) oneW) t else if k = 6 then fdiv (flip64 (fln f)) t else fmul (rtM k) (fsub (fexp (fdiv (flip64 (fln f)) (fmul (rtM k) t))) oneW)
abbrev longW : Nat := 4697254411347427328
def okT (t : Nat) : Bool := fin t && decide (0 ≤ rk t) && decide (rk t ≤ rk longW)
def okK (k : Int) : Bool := decide (1 ≤ k) && decide (k ≤ 6)
def facA (k : Int) (r t : Nat) : Nat × Int :=
  if okK k = false then (0, 90) else if (fin r && okT t) = false then (0, 91) else if ltB 0 (rtB k r t) = false then (0, 91)
  else if (fin (rtF k r t) && !(mg (rtF k r t) == 0)) = false then (0, 91) else (rtF k r t, 0)
def yldA (k : Int) (f t : Nat) : Nat × Int :=
  if okK k = false then (0, 90) else if (fin f && ltB 0 f && okT t && ltB 0 t) = false then (0, 91)
  else if fin (rtY k f t) = false then (0, 91) else (rtY k f t, 0)
def fwdA (n f t : Nat) : Nat × Int :=
  if (fin n && ltB 0 n && fin f && ltB 0 f && fin t && ltB 0 t) = false then (0, 91)
  else if fin (fdiv (fsub (fdiv n f) oneW) t) = false then (0, 91) else (fdiv (fsub (fdiv n f) oneW) t, 0)

theorem flip_cn (x : Nat) (hx : F64 x) : cn (flip64 (cn x)) = cn (flip64 x) := by
  cases h : nn x
  · rw [cn_of x h]
  · have e : ∀ y, nn y = true → nn (flip64 y) = true := fun y hy => by unfold nn at *; rw [mg_flip]; exact hy
    rw [cn_nan x h, cn_nan _ (e _ nn_NaNc), cn_nan _ (e _ h)]
theorem fexp_flip (x : Nat) (hx : F64 x) : fexp (cn (flip64 (cn x))) = fexp (cn (flip64 x)) := by rw [flip_cn x hx]

theorem rtM_row (k : Int) (h1 : 2 ≤ k) (h2 : k ≤ 5) : F64 (rtM k) ∧ fin (rtM k) = true ∧ rk oneW ≤ rk (rtM k) ∧ rk (rtM k) ≤ rk 4622945017495814144 := by
  rcases (by omega : k = 2 ∨ k = 3 ∨ k = 4 ∨ k = 5) with rfl | rfl | rfl | rfl
  · exact ⟨⟨by decide⟩, by decide +kernel, by decide +kernel, by decide +kernel⟩
  · exact ⟨⟨by decide⟩, by decide +kernel, by decide +kernel, by decide +kernel⟩
  · exact ⟨⟨by decide⟩, by decide +kernel, by decide +kernel, by decide +kernel⟩
  · exact ⟨⟨by decide⟩, by decide +kernel, by decide +kernel, by decide +kernel⟩

theorem okT_iff (t : Nat) : okT t = true ↔ (fin t = true ∧ 0 ≤ rk t ∧ rk t ≤ rk longW) := by unfold okT; simp [and_assoc]

/-- m * t is a number. -/
theorem mt_fin (k : Int) (t : Nat) (h1 : 2 ≤ k) (h2 : k ≤ 5) (ht : F64 t) (h : okT t = true) : fin (fmul (rtM k) t) = true ∧ 0 ≤ rk (fmul (rtM k) t) := by
  obtain ⟨a, b, c⟩ := (okT_iff t).1 h
  obtain ⟨m1, m2, m3, m4⟩ := rtM_row k h1 h2
  have o0 : 0 < rk oneW := by decide +kernel
  have n := fmul_nonneg (rtM k) t m1 ht m2 a (by omega) b
  have u := fmul_mono2 (rtM k) 4622945017495814144 t longW m1 ⟨by decide⟩ ht ⟨by decide⟩ m2 (by decide +kernel) a (by decide +kernel) m4 (by omega) c b
  have z0 : rk 0 = 0 := by decide +kernel
  exact ⟨fin_mid _ 0 _ (by omega) u (by decide +kernel) (by decide +kernel), n⟩

end Go.Proofs.YtpegicgahbambaaGreat

/- The walks of package rate: a kind's two formulas. -/
namespace Go.Proofs.YtpegicgahbambaaGreat
open Go.RowKit
set_option linter.unusedSimpArgs false
set_option linter.unusedVariables false

set_option maxHeartbeats 800000 in
theorem tnumber_any (x : Nat) (hx : F64 x) (w : World) :
    Calls Tryz.prog 12 #[.float .f64 x] w fun e w' => e = .returned (.bool (fin x)) ∧ w = w' := by
  have H := Hd.mk (cls_fin x)
  go_enter Tryz.func12, Tryz.ntmps12
  go_wp2_with (go_at_call 25; refine (class_any _ hx _).mono ?_; rintro e w' ⟨rfl, rfl⟩)
  go_ret
  exact ⟨ret_bool H.out, rfl⟩

theorem z0_facts : F64 0 ∧ nn 0 = false ∧ rk 0 = 0 := ⟨⟨by decide⟩, by decide +kernel, by decide +kernel⟩
theorem gt0_ltB (x : Nat) (hx : F64 x) : (FloatKind.f64.format.order x 0 == some .gt) = ltB 0 x := by
  obtain ⟨a, b, c⟩ := z0_facts
  rw [fgt x 0 hx a, b]; unfold ltB; rw [b]; simp
theorem ltB_cn (x y : Nat) : ltB x (cn y) = ltB x y := by
  cases h : nn y
  · rw [cn_of y h]
  · unfold ltB; rw [nn_cn, h]; simp

set_option maxHeartbeats 800000 in
theorem tabove_any (x : Nat) (hx : F64 x) (w : World) :
    Calls Tryz.prog 11 #[.float .f64 x] w fun e w' => e = .returned (.bool (fin x && ltB 0 x)) ∧ w = w' := by
  have HN := Hd.mk (tnumber_any x hx)
  have HG := gt0_ltB x hx
  generalize ltB 0 x = b at *
  cases hf : fin x <;> rw [hf] at HN
  all_goals
    go_enter Tryz.func11, Tryz.ntmps11
    go_wp2_with fail
    refine (HN.out _).mono ?_; rintro e w' ⟨rfl, rfl⟩
    go_wp2_with fail
    go_ret
    exact ⟨rfl, rfl⟩

/-- A function value that is one of rate's formulas: it returns a float that is g, all NaNs one, and whether there is a factor. -/
structure FacFn (fid : FuncId) (caps : Array Value) (k : Int) (w0 : World) : Prop where
  enter : ∀ args w, (callFunc fid args).run Tryz.prog w = .ok (.enter fid args) w
  calls : ∀ r t w, Below w0.heap.size w0 w → F64 r → F64 t → fin r = true → okT t = true → Calls Tryz.prog fid (#[.float .f64 r, .float .f64 t] ++ caps) w fun e w' =>
    ∃ x, e = .returned (.tuple #[.float .f64 x, .bool (ltB 0 (rtB k r t))]) ∧ F64 x ∧ cn x = rtF k r t ∧ Below w.heap.size w w'
structure YldFn (fid : FuncId) (caps : Array Value) (k : Int) (w0 : World) : Prop where
  enter : ∀ args w, (callFunc fid args).run Tryz.prog w = .ok (.enter fid args) w
  calls : ∀ f t w, Below w0.heap.size w0 w → F64 f → F64 t → fin f = true → okT t = true → Calls Tryz.prog fid (#[.float .f64 f, .float .f64 t] ++ caps) w fun e w' =>
    ∃ x, e = .returned (.float .f64 x) ∧ F64 x ∧ cn x = rtY k f t ∧ Below w.heap.size w w'

set_option maxHeartbeats 1600000 in
theorem simple1_any (r t : Nat) (hr : F64 r) (ht : F64 t) (fr : fin r = true) (ft : fin t = true) (w : World) :
    Calls Tryz.prog 53 #[.float .f64 r, .float .f64 t] w fun e w' => ∃ x, e = .returned (.tuple #[.float .f64 x, .bool (ltB 0 (rtB 1 r t))]) ∧ F64 x ∧ cn x = rtF 1 r t ∧ Below w.heap.size w w' := by
  have v1 := mul_val (rk_fmul r t hr ht fr ft).2
  have HB : Hd (fmul r t = fmul r t) := ⟨rfl⟩
  have e1 : rtB 1 r t = fadd oneW (fmul r t) := rfl
  have e2 : rtF 1 r t = fdiv oneW (fadd oneW (fmul r t)) := rfl
  have FM := F64_fmul r t
  have hnm := (rk_fmul r t hr ht fr ft).2
  rw [e1, e2]
  have hd0 : ∀ w : World, w.drewN 0 = w := fun _ => rfl
  generalize fmul r t = M at *
  obtain ⟨v1a, v1b⟩ := v1
  clear e1 e2 fr ft HB
  -- the sum is no NaN: its other part is 1
  have hna : nn (fadd oneW M) = false := by
    rcases ways M with ⟨h, _, _⟩ | ⟨_, h, _⟩ | ⟨_, _, h⟩
    · rw [hnm] at h; cases h
    · rw [fadd_fi _ _ one_w.w FM one_w.f h]; exact hnm
    · exact (rk_fadd _ _ one_w.w FM one_w.f h).2
  obtain ⟨v2a, v2b⟩ := add_val hna
  have FB := F64_fadd oneW M
  have hg := gt0_ltB _ FB
  generalize fadd oneW M = B at *
  generalize ltB 0 B = ok at *
  have HQ := Hd.mk fun w => show F64 (fres .quo oneW B w) ∧ cn (fres .quo oneW B w) = fdiv oneW B from ⟨F64_fres _ _ _ _, by rw [cn_fdiv _ _ _ one_w.w FB, cn_cns.1, cn_of B hna]⟩
  clear hna hnm
  go_enter Tryz.func53, Tryz.ntmps53
  go_wp2_with fail
  go_ret2
  exact ⟨_, rfl, (HQ.out _).1, (HQ.out _).2, below_drewN (Below.refl _ _) _⟩

set_option maxHeartbeats 1600000 in
theorem simple2_any (f t : Nat) (hf : F64 f) (ht : F64 t) (ff : fin f = true) (ft : fin t = true) (w : World) :
    Calls Tryz.prog 54 #[.float .f64 f, .float .f64 t] w fun e w' => ∃ x, e = .returned (.float .f64 x) ∧ F64 x ∧ cn x = rtY 1 f t ∧ Below w.heap.size w w' := by
  have e2 : rtY 1 f t = fdiv (fsub (fdiv oneW f) oneW) t := rfl
  rw [e2]
  have HQ := Hd.mk fun w1 w2 w3 => show cn (fres .quo (fres .sub (fres .quo oneW f w1) oneW w2) t w3) = fdiv (fsub (fdiv oneW f) oneW) t from by
    rw [cn_fdiv _ _ _ (F64_fres _ _ _ _) ht, cn_fsub _ _ _ (F64_fres _ _ _ _) one_w.w, cn_fdiv _ _ _ one_w.w hf, cn_cns.1, cn_of f (nn_fin f ff), cn_of t (nn_fin t ft)]
  clear e2 ff ft
  generalize fdiv (fsub (fdiv oneW f) oneW) t = Z at *
  go_enter Tryz.func54, Tryz.ntmps54
  go_wp2_with fail
  go_ret
  exact ⟨_, rfl, F64_fres _ _ _ _, HQ.out _ _ _, below_drewN (Below.refl _ _) _⟩

@[go_sem] theorem unary_fneg (x : Nat) : Op.unary .neg (.float .f64 x) = pure (.float .f64 (Op.negFloat .f64 x)) := rfl

theorem neg_flip (x : Nat) (hx : F64 x) : Op.negFloat .f64 x = flip64 x := by
  have h := xor_sign x hx
  have := u64_xor_nat x 9223372036854775808 hx.out (by decide)
  rw [show ((9223372036854775808 : Nat) : Int) = 9223372036854775808 from rfl] at this
  rw [this] at h
  have e : Op.negFloat .f64 x = x ^^^ 9223372036854775808 := rfl
  rw [e]; omega

set_option maxHeartbeats 1600000 in
/-- The kind's float in its box; the world may have grown. -/
theorem times1_any (k : Int) (r t bm : Nat) (k1 : 2 ≤ k) (k2 : k ≤ 5) (hr : F64 r) (ht : F64 t) (fr : fin r = true) (ok : okT t = true) (w : World) (hc : w.cell? ⟨bm, 0, none⟩ = some (.float .f64 (rtM k))) :
    Calls Tryz.prog 55 #[.float .f64 r, .float .f64 t, .pointer (some ⟨bm, 0, none⟩)] w fun e w' => ∃ x, e = .returned (.tuple #[.float .f64 x, .bool (ltB 0 (rtB k r t))]) ∧ F64 x ∧ cn x = rtF k r t ∧ Below w.heap.size w w' := by
  obtain ⟨m1, m2, m3, m4⟩ := rtM_row k k1 k2
  have o0 : 0 < rk oneW := by decide +kernel
  have hq := (rk_fdiv r (rtM k) hr m1 fr m2 (by omega)).2
  have ft := ((okT_iff t).1 ok).1
  obtain ⟨mf, mn⟩ := mt_fin k t k1 k2 ht ok
  have e1 : rtB k r t = fadd oneW (fdiv r (rtM k)) := by unfold rtB; rw [if_neg (by omega), if_neg (by omega)]
  have e2 : rtF k r t = fexp (flip64 (fmul (fmul (rtM k) t) (fln (fadd oneW (fdiv r (rtM k)))))) := by unfold rtF; rw [if_neg (by omega), if_neg (by omega), e1]
  rw [e1, e2]
  obtain ⟨v1a, v1b⟩ := div_val hq
  have FQ := F64_fdiv r (rtM k)
  obtain ⟨v3a, v3b⟩ := mul_val (nn_fin _ mf)
  have FM := F64_fmul (rtM k) t
  generalize fdiv r (rtM k) = Q at *
  have hna : nn (fadd oneW Q) = false := by
    rcases ways Q with ⟨h, _, _⟩ | ⟨_, h, _⟩ | ⟨_, _, h⟩
    · rw [hq] at h; cases h
    · rw [fadd_fi _ _ one_w.w FQ one_w.f h]; exact hq
    · exact (rk_fadd _ _ one_w.w FQ one_w.f h).2
  obtain ⟨v2a, v2b⟩ := add_val hna
  have FB := F64_fadd oneW Q
  have hg := gt0_ltB _ FB
  generalize fadd oneW Q = B at *
  generalize ltB 0 B = okb at *
  have HL := Hd.mk (ln_any B FB)
  rw [cn_of B hna] at HL
  generalize rtM k = m at *
  generalize fmul m t = MT at *
  have HE := Hd.mk fun x w1 (hx : F64 x) (hcx : cn x = fln B) => show ∀ w, Calls Tryz.prog 56 #[.float .f64 (flip64 (fres .mul MT x w1))] w (FRetB (fexp (flip64 (fmul MT (fln B)))) w) from fun w => by
    have h := exp_any (flip64 (fres .mul MT x w1)) (F64_flip _) w
    have e : fexp (cn (flip64 (fres .mul MT x w1))) = fexp (flip64 (fmul MT (fln B))) := by
      rw [← flip_cn _ (F64_fres _ _ _ _), cn_fmul _ _ _ FM hx, hcx, cn_of MT (nn_fin _ mf), fexp_cn]
    rwa [e] at h
  have HNeg := Hd.mk fun x w1 => neg_flip (fres .mul MT x w1) (F64_fres _ _ _ _)
  have hd0 : ∀ w : World, w.drewN 0 = w := fun _ => rfl
  generalize fexp (flip64 (fmul MT (fln B))) = Z at *
  generalize fln B = LB at *
  clear e1 e2 fr ft ok m1 m2 m3 m4 o0 mn hq hna mf
  go_enter Tryz.func55, Tryz.ntmps55
  go_wp2_with fail
  have hng : ∀ x w1, Op.negFloat .f64 (fres .mul MT x w1) = flip64 (fres .mul MT x w1) := fun x w1 => HNeg.out x w1
  have hk := World.block_lt_of_cell? _ _ hc
  go_region_with (first
    | (go_at_call 57; refine (HL.out _).mono ?_; rintro en w1 ⟨x, rfl, hx, hcx, hb⟩; have d0 := cell_of_below hb (Nat.le_refl _) hc; have B1 := Hd.mk hb; have HX := Hd.mk hx; have HCX := Hd.mk hcx; clear hb hx hcx)
    | (go_at_call 56; refine (HE.out _ _ HX.out HCX.out _).mono ?_; rintro en w2 ⟨y, rfl, hy, hcy, hb⟩; have g0 := cell_of_below hb (Nat.le_refl _) d0; have B2 := Hd.mk hb; have HY := Hd.mk hy; have HCY := Hd.mk hcy; clear hb hy hcy))
  all_goals
    go_wp2_with fail
    go_ret2
    exact ⟨_, rfl, HY.out, HCY.out, ((Below.refl w.heap.size w).drew.trans ((below_drewN B1.out (fcnt .mul MT x)).trans (B2.out.mono B1.out.size)))⟩

set_option maxHeartbeats 8000000 in
theorem times2_any (k : Int) (f t bm : Nat) (k1 : 2 ≤ k) (k2 : k ≤ 5) (hf : F64 f) (ht : F64 t) (ff : fin f = true) (ok : okT t = true) (w : World) (hc : w.cell? ⟨bm, 0, none⟩ = some (.float .f64 (rtM k))) :
    Calls Tryz.prog 58 #[.float .f64 f, .float .f64 t, .pointer (some ⟨bm, 0, none⟩)] w fun e w' => ∃ x, e = .returned (.float .f64 x) ∧ F64 x ∧ cn x = rtY k f t ∧ Below w.heap.size w w' := by
  obtain ⟨m1, m2, m3, m4⟩ := rtM_row k k1 k2
  obtain ⟨mf, mn⟩ := mt_fin k t k1 k2 ht ok
  have e1 : rtY k f t = fmul (rtM k) (fsub (fexp (fdiv (flip64 (fln f)) (fmul (rtM k) t))) oneW) := by unfold rtY; rw [if_neg (by omega), if_neg (by omega)]
  rw [e1]
  obtain ⟨v3a, v3b⟩ := mul_val (nn_fin _ mf)
  have FM := F64_fmul (rtM k) t
  have HL := Hd.mk (ln_any f hf)
  rw [cn_of f (nn_fin f ff)] at HL
  have cm := cn_of _ (nn_fin _ m2)
  generalize rtM k = m at *
  generalize fmul m t = MT at *
  have HE := Hd.mk fun x w1 (hx : F64 x) (hcx : cn x = fln f) => show ∀ w, Calls Tryz.prog 56 #[.float .f64 (fres .quo (flip64 x) MT w1)] w (FRetB (fexp (fdiv (flip64 (fln f)) MT)) w) from fun w => by
    have h := exp_any (fres .quo (flip64 x) MT w1) (F64_fres _ _ _ _) w
    have e : fexp (cn (fres .quo (flip64 x) MT w1)) = fexp (fdiv (flip64 (fln f)) MT) := by
      rw [cn_fdiv _ _ _ (F64_flip _) FM, ← hcx, ← flip_cn x hx]
      congr 1
      rw [← fdiv_cn (flip64 (cn x)) MT (F64_flip _) FM]
    rwa [e] at h
  have HNeg := Hd.mk fun x (hx : F64 x) => neg_flip x hx
  have HZ := Hd.mk fun y w1 w2 (hy : F64 y) (hcy : cn y = fexp (fdiv (flip64 (fln f)) MT)) => show cn (fres .mul m (fres .sub y oneW w1) w2) = fmul m (fsub (fexp (fdiv (flip64 (fln f)) MT)) oneW) from by
    rw [cn_fmul _ _ _ m1 (F64_fres _ _ _ _), cn_fsub _ _ _ hy one_w.w, hcy, cm, cn_cns.1]
  have hd0 : ∀ w : World, w.drewN 0 = w := fun _ => rfl
  generalize fmul m (fsub (fexp (fdiv (flip64 (fln f)) MT)) oneW) = Z at *
  generalize fexp (fdiv (flip64 (fln f)) MT) = Y at *
  generalize fln f = LB at *
  clear e1 ff ok m1 m2 m3 m4 mn mf cm
  have hk := World.block_lt_of_cell? _ _ hc
  go_enter Tryz.func58, Tryz.ntmps58
  go_wp2_with fail
  go_region_with (first
    | (go_at_call 57; refine (HL.out _).mono ?_; rintro en w1 ⟨x, rfl, hx, hcx, hb⟩; have d0 := cell_of_below hb (Nat.le_refl _) hc; have hng := HNeg.out x hx; have B1 := Hd.mk hb; have HX := Hd.mk hx; have HCX := Hd.mk hcx; clear hb hx hcx)
    | (go_at_call 56; refine (HE.out _ _ HX.out HCX.out _).mono ?_; rintro en w2 ⟨y, rfl, hy, hcy, hb⟩; have g0 := cell_of_below hb (Nat.le_refl _) d0; have B2 := Hd.mk hb; have HY := Hd.mk hy; have HCY := Hd.mk hcy; clear hb hy hcy))
  all_goals
    go_wp2_with fail
    go_ret
    exact ⟨_, rfl, F64_fres _ _ _ _, HZ.out _ _ _ HY.out HCY.out, below_drewN ((Below.refl w.heap.size w).drew.trans ((below_drewN B1.out (fcnt .quo (flip64 x) MT)).trans (B2.out.mono B1.out.size))) _⟩

end Go.Proofs.YtpegicgahbambaaGreat

/- The walks of package rate: the kinds. -/
namespace Go.Proofs.YtpegicgahbambaaGreat
open Go.RowKit
set_option linter.unusedSimpArgs false
set_option linter.unusedVariables false

theorem ltB_one : ltB 0 oneW = true := by decide +kernel
theorem rt6B (r t : Nat) : rtB 6 r t = oneW := by unfold rtB; rw [if_neg (by decide), if_pos rfl]
theorem rt6F (r t : Nat) : rtF 6 r t = fexp (flip64 (fmul r t)) := by unfold rtF; rw [if_neg (by decide), if_pos rfl]
theorem ok6 (r t : Nat) : ltB 0 (rtB 6 r t) = true := by rw [rt6B]; exact ltB_one

set_option maxHeartbeats 1600000 in
theorem always1_any (r t : Nat) (hr : F64 r) (ht : F64 t) (fr : fin r = true) (ft : fin t = true) (w : World) :
    Calls Tryz.prog 59 #[.float .f64 r, .float .f64 t] w fun e w' => ∃ x, e = .returned (.tuple #[.float .f64 x, .bool (ltB 0 (rtB 6 r t))]) ∧ F64 x ∧ cn x = rtF 6 r t ∧ Below w.heap.size w w' := by
  obtain ⟨v1a, v1b⟩ := mul_val (rk_fmul r t hr ht fr ft).2
  rw [ok6, rt6F]
  have FM := F64_fmul r t
  have hn := neg_flip _ FM
  have HE := Hd.mk (exp_any (flip64 (fmul r t)) (F64_flip _))
  rw [fexp_cn] at HE
  have hd0 : ∀ w : World, w.drewN 0 = w := fun _ => rfl
  generalize fexp (flip64 (fmul r t)) = Z at *
  generalize flip64 (fmul r t) = Y at *
  generalize fmul r t = M at *
  clear fr ft
  go_enter Tryz.func59, Tryz.ntmps59
  go_wp2_with fail
  refine (HE.out _).mono ?_; rintro en w1 ⟨x, rfl, hx, hcx, hb⟩
  have HX := Hd.mk hx
  have HC := Hd.mk hcx
  have HB := Hd.mk hb
  clear hx hcx hb
  go_wp2_with fail
  go_ret2
  exact ⟨_, rfl, HX.out, HC.out, HB.out⟩

set_option maxHeartbeats 1600000 in
theorem always2_any (f t : Nat) (hf : F64 f) (ht : F64 t) (ff : fin f = true) (ft : fin t = true) (w : World) :
    Calls Tryz.prog 60 #[.float .f64 f, .float .f64 t] w fun e w' => ∃ x, e = .returned (.float .f64 x) ∧ F64 x ∧ cn x = rtY 6 f t ∧ Below w.heap.size w w' := by
  have e2 : rtY 6 f t = fdiv (flip64 (fln f)) t := by unfold rtY; rw [if_neg (by decide), if_pos rfl]
  rw [e2]
  have HL := Hd.mk (ln_any f hf)
  rw [cn_of f (nn_fin f ff)] at HL
  have HNeg := Hd.mk fun x (hx : F64 x) => neg_flip x hx
  have HZ := Hd.mk fun x w1 (hx : F64 x) (hcx : cn x = fln f) => show cn (fres .quo (flip64 x) t w1) = fdiv (flip64 (fln f)) t from by
    rw [cn_fdiv _ _ _ (F64_flip _) ht, cn_of t (nn_fin t ft), ← hcx, ← flip_cn x hx]
    conv => lhs; rw [← cn_of t (nn_fin t ft)]
    exact fdiv_cn _ _ (F64_flip _) ht
  clear e2 ff ft
  generalize fdiv (flip64 (fln f)) t = Z at *
  generalize fln f = L at *
  go_enter Tryz.func60, Tryz.ntmps60
  go_wp2_with fail
  refine (HL.out _).mono ?_; rintro en w1 ⟨x, rfl, hx, hcx, hb⟩
  have hng := HNeg.out x hx
  have HX := Hd.mk hx
  have HC := Hd.mk hcx
  have HB := Hd.mk hb
  clear hx hcx hb
  go_wp2_with fail
  go_ret
  exact ⟨_, rfl, F64_fres _ _ _ _, HZ.out _ _ HX.out HC.out, below_drewN HB.out _⟩

/-- A box with a kind's two formulas. -/
def WayAt (w : World) (k : Int) (p : Nat) : Prop := ∃ f1 c1 f2 c2, w.cell? ⟨p, 0, none⟩ = some (.func (.func f1) #[] c1) ∧ w.cell? ⟨p, 1, none⟩ = some (.func (.func f2) #[] c2) ∧ FacFn f1 c1 k w ∧ YldFn f2 c2 k w
def WayRet (k : Int) (w : World) (e : Ending) (w' : World) : Prop := ∃ p, e = .returned (.pointer (some ⟨p, 0, none⟩)) ∧ WayAt w' k p ∧ Below w.heap.size w w'

theorem simple_fac (W : World) : FacFn 53 #[] 1 W where
  enter := fun args w => enter_of Tryz.func53 (by kernel_rfl) rfl args w
  calls := fun r t w _ hr ht fr ok => simple1_any r t hr ht fr ((okT_iff t).1 ok).1 w
theorem simple_yld (W : World) : YldFn 54 #[] 1 W where
  enter := fun args w => enter_of Tryz.func54 (by kernel_rfl) rfl args w
  calls := fun f t w _ hf ht ff ok => simple2_any f t hf ht ff ((okT_iff t).1 ok).1 w
theorem always_fac (W : World) : FacFn 59 #[] 6 W where
  enter := fun args w => enter_of Tryz.func59 (by kernel_rfl) rfl args w
  calls := fun r t w _ hr ht fr ok => always1_any r t hr ht fr ((okT_iff t).1 ok).1 w
theorem always_yld (W : World) : YldFn 60 #[] 6 W where
  enter := fun args w => enter_of Tryz.func60 (by kernel_rfl) rfl args w
  calls := fun f t w _ hf ht ff ok => always2_any f t hf ht ff ((okT_iff t).1 ok).1 w
theorem times_fac (k : Int) (k1 : 2 ≤ k) (k2 : k ≤ 5) (bm : Nat) (W : World) (hc : W.cell? ⟨bm, 0, none⟩ = some (.float .f64 (rtM k))) : FacFn 55 #[.pointer (some ⟨bm, 0, none⟩)] k W where
  enter := fun args w => enter_of Tryz.func55 (by kernel_rfl) rfl args w
  calls := fun r t w hb hr ht fr ok => times1_any k r t bm k1 k2 hr ht fr ok w (cell_of_below hb (Nat.le_refl _) hc)
theorem times_yld (k : Int) (k1 : 2 ≤ k) (k2 : k ≤ 5) (bm : Nat) (W : World) (hc : W.cell? ⟨bm, 0, none⟩ = some (.float .f64 (rtM k))) : YldFn 58 #[.pointer (some ⟨bm, 0, none⟩)] k W where
  enter := fun args w => enter_of Tryz.func58 (by kernel_rfl) rfl args w
  calls := fun f t w hb hf ht ff ok => times2_any k f t bm k1 k2 hf ht ff ok w (cell_of_below hb (Nat.le_refl _) hc)

set_option maxHeartbeats 1600000 in
theorem simple_any (w : World) : Calls Tryz.prog 34 #[] w (WayRet 1 w) := by
  have H1 := Hd.mk simple_fac
  have H2 := Hd.mk simple_yld
  go_enter Tryz.func34, Tryz.ntmps34
  go_wp2_with fail
  go_ret
  exact ⟨_, rfl, ⟨_, _, _, _, by go_simp, by go_simp, H1.out _, H2.out _⟩, (Below.refl _ _).alloc (Nat.le_refl _) _⟩

set_option maxHeartbeats 1600000 in
theorem always_any (w : World) : Calls Tryz.prog 36 #[] w (WayRet 6 w) := by
  have H1 := Hd.mk always_fac
  have H2 := Hd.mk always_yld
  go_enter Tryz.func36, Tryz.ntmps36
  go_wp2_with fail
  go_ret
  exact ⟨_, rfl, ⟨_, _, _, _, by go_simp, by go_simp, H1.out _, H2.out _⟩, (Below.refl _ _).alloc (Nat.le_refl _) _⟩

set_option maxHeartbeats 1600000 in
theorem rtimes_any (k : Int) (k1 : 2 ≤ k) (k2 : k ≤ 5) (w : World) : Calls Tryz.prog 35 #[.float .f64 (rtM k)] w (WayRet k w) := by
  have hmf : ∀ (fn : Fn) (first cap : Array Value) (w : World), (Instr.makeFunc fn first cap).run Tryz.prog w = .ok (.func fn first cap) w := fun _ _ _ _ => rfl
  have H1 := Hd.mk (times_fac k k1 k2)
  have H2 := Hd.mk (times_yld k k1 k2)
  generalize rtM k = m at *
  go_enter Tryz.func35, Tryz.ntmps35
  go_wp2_with fail
  go_ret
  exact ⟨_, rfl, ⟨_, _, _, _, by go_simp, by go_simp, H1.out w.heap.size _ (by go_simp), H2.out w.heap.size _ (by go_simp)⟩, ((Below.refl _ _).alloc (Nat.le_refl _) _).alloc (by simp) _⟩

end Go.Proofs.YtpegicgahbambaaGreat

/- The walks of package rate. -/
namespace Go.Proofs.YtpegicgahbambaaGreat
open Go.RowKit
set_option linter.unusedSimpArgs false
set_option linter.unusedVariables false

def OfRet (k : Int) (w : World) (e : Ending) (w' : World) : Prop := (okK k = true ∧ WayRet k w e w') ∨ (okK k = false ∧ e = .returned (.pointer none) ∧ w = w')

set_option maxHeartbeats 1600000 in
theorem rof_any (k : Int) (w : World) : Calls Tryz.prog 18 #[.int .i64 k] w (OfRet k w) := by
  have HS := Hd.mk (simple_any)
  have HA := Hd.mk (always_any)
  have HT := Hd.mk (rtimes_any)
  by_cases h1 : k = 1
  · subst h1
    go_enter Tryz.func18, Tryz.ntmps18
    go_wp2_with fail
    refine (HS.out _).mono ?_; rintro en w1 ⟨p, rfl, hw, hb⟩
    go_wp2_with fail
    go_ret
    exact Or.inl ⟨by decide, p, rfl, hw, hb⟩
  by_cases h2 : k = 2
  · subst h2
    have HT2 := Hd.mk (HT.out 2 (by decide) (by decide))
    go_enter Tryz.func18, Tryz.ntmps18
    go_wp2_with fail
    refine (HT2.out _).mono ?_; rintro en w1 ⟨p, rfl, hw, hb⟩
    go_wp2_with fail
    go_ret
    exact Or.inl ⟨by decide, p, rfl, hw, hb⟩
  by_cases h3 : k = 3
  · subst h3
    have HT2 := Hd.mk (HT.out 3 (by decide) (by decide))
    go_enter Tryz.func18, Tryz.ntmps18
    go_wp2_with fail
    refine (HT2.out _).mono ?_; rintro en w1 ⟨p, rfl, hw, hb⟩
    go_wp2_with fail
    go_ret
    exact Or.inl ⟨by decide, p, rfl, hw, hb⟩
  by_cases h4 : k = 4
  · subst h4
    have HT2 := Hd.mk (HT.out 4 (by decide) (by decide))
    go_enter Tryz.func18, Tryz.ntmps18
    go_wp2_with fail
    refine (HT2.out _).mono ?_; rintro en w1 ⟨p, rfl, hw, hb⟩
    go_wp2_with fail
    go_ret
    exact Or.inl ⟨by decide, p, rfl, hw, hb⟩
  by_cases h5 : k = 5
  · subst h5
    have HT2 := Hd.mk (HT.out 5 (by decide) (by decide))
    go_enter Tryz.func18, Tryz.ntmps18
    go_wp2_with fail
    refine (HT2.out _).mono ?_; rintro en w1 ⟨p, rfl, hw, hb⟩
    go_wp2_with fail
    go_ret
    exact Or.inl ⟨by decide, p, rfl, hw, hb⟩
  by_cases h6 : k = 6
  · subst h6
    go_enter Tryz.func18, Tryz.ntmps18
    go_wp2_with fail
    refine (HA.out _).mono ?_; rintro en w1 ⟨p, rfl, hw, hb⟩
    go_wp2_with fail
    go_ret
    exact Or.inl ⟨by decide, p, rfl, hw, hb⟩
  have ho : okK k = false := by unfold okK; rw [Bool.and_eq_false_iff]; simp; omega
  have e1 : (k == 1) = false := by simpa using h1
  have e2 : (k == 2) = false := by simpa using h2
  have e3 : (k == 3) = false := by simpa using h3
  have e4 : (k == 4) = false := by simpa using h4
  have e5 : (k == 5) = false := by simpa using h5
  have e6 : (k == 6) = false := by simpa using h6
  clear h1 h2 h3 h4 h5 h6
  have HO := Hd.mk ho
  clear ho
  go_enter Tryz.func18, Tryz.ntmps18
  go_wp2_with fail
  go_ret
  exact Or.inr ⟨HO.out, rfl, rfl⟩

theorem le_flip (a b : Int) : (decide (a < b)) = !(decide (b ≤ a)) := by by_cases h : b ≤ a <;> simp [h] <;> omega

theorem rk0_mg (v : Nat) : decide (rk v = 0) = (mg v == 0) := by
  cases h : ng v
  · rw [rk_of_pos h]; by_cases g : mg v = 0 <;> simp [g]
  · rw [rk_of_neg h]; by_cases g : mg v = 0 <;> simp [g]
theorem fin_cn (x : Nat) : fin (cn x) = fin x := by
  cases h : nn x
  · rw [cn_of x h]
  · rw [cn_nan x h]
    cases hf : fin x
    · decide +kernel
    · rw [nn_fin x hf] at h; cases h
theorem mg_cn0 (x : Nat) (h : fin x = true) : cn x = x := cn_of x (nn_fin x h)
theorem rlt0 (x : Nat) (hx : F64 x) (hn : nn x = false) : (FloatKind.f64.format.order x 0 == some .lt) = decide (rk x < 0) := by
  obtain ⟨a, b, c⟩ := z0_facts
  rw [flt x 0 hx a, hn, b, c]; simp
theorem req0 (x : Nat) (hx : F64 x) (hf : fin x = true) : (FloatKind.f64.format.order x 0 == some .eq) = (mg x == 0) := by
  obtain ⟨a, b, c⟩ := z0_facts
  rw [feq x 0 hx a, nn_fin x hf, b, c, rk0_mg]; simp
theorem okT_no1 (t : Nat) (h : fin t = false) : okT t = false := by unfold okT; rw [h]; rfl
theorem okT_no2 (t : Nat) (h : rk t < 0) : okT t = false := by unfold okT; rw [decide_eq_false (by omega : ¬ 0 ≤ rk t)]; simp
theorem okT_no3 (t : Nat) (h : rk longW < rk t) : okT t = false := by unfold okT; rw [decide_eq_false (by omega : ¬ rk t ≤ rk longW)]; simp
theorem long_facts : F64 longW ∧ nn longW = false ∧ fin longW = true := ⟨⟨by decide⟩, by decide +kernel, by decide +kernel⟩

set_option maxHeartbeats 3200000 in
set_option maxRecDepth 100000 in
theorem factor_any (k : Int) (r t : Nat) (hr : F64 r) (ht : F64 t) (w : World) :
    Calls Tryz.prog 19 #[.int .i64 k, .float .f64 r, .float .f64 t] w fun e w' => ∃ x, e = .returned (.tuple #[.float .f64 x, .int .i64 (facA k r t).2]) ∧ F64 x ∧ cn x = (facA k r t).1 ∧ Below w.heap.size w w' := by
  have HO := Hd.mk (rof_any k)
  have HR := Hd.mk (tnumber_any r hr)
  have HT := Hd.mk (tnumber_any t ht)
  have zf : F64 0 := ⟨by decide⟩
  have z1 : cn 0 = 0 := by decide +kernel
  have z0 : rk 0 = 0 := by decide +kernel
  cases ho : okK k
  · have ha : facA k r t = (0, 90) := by unfold facA; rw [if_pos ho]
    rw [ha]
    clear ha
    go_enter Tryz.func19, Tryz.ntmps19
    go_wp2_with fail
    refine (HO.out _).mono ?_; rintro en w1 (⟨h, _⟩ | ⟨_, rfl, rfl⟩)
    · rw [ho] at h; cases h
    clear ho
    go_wp2_with fail
    go_ret2
    exact ⟨0, rfl, zf, z1, Below.refl _ _⟩
  have h0 : facA k r t = if (fin r && okT t) = false then (0, 91) else if ltB 0 (rtB k r t) = false then (0, 91) else if (fin (rtF k r t) && !(mg (rtF k r t) == 0)) = false then (0, 91) else (rtF k r t, 0) := by
    unfold facA; rw [if_neg (by rw [ho]; decide)]
  rw [h0]
  clear h0
  cases hfr : fin r
  · rw [hfr] at HR
    rw [Bool.false_and, if_pos rfl]
    go_enter Tryz.func19, Tryz.ntmps19
    go_wp2_with fail
    refine (HO.out _).mono ?_; rintro en w1 (⟨_, p, rfl, hw, hb⟩ | ⟨h, _⟩)
    rotate_left
    · rw [ho] at h; cases h
    clear ho
    have HB := Hd.mk hb
    clear hb hw
    go_wp2_with (first | (refine (HR.out _).mono ?_; rintro e w' ⟨rfl, rfl⟩) | (refine (HT.out _).mono ?_; rintro e w' ⟨rfl, rfl⟩))
    go_ret2
    exact ⟨0, rfl, zf, z1, HB.out⟩
  rw [Bool.true_and]
  rw [hfr] at HR
  have F0 := Hd.mk hfr
  clear hfr
  cases hft : fin t
  · rw [hft] at HT
    rw [okT_no1 t hft, if_pos rfl]
    clear hft
    go_enter Tryz.func19, Tryz.ntmps19
    go_wp2_with fail
    refine (HO.out _).mono ?_; rintro en w1 (⟨_, p, rfl, hw, hb⟩ | ⟨h, _⟩)
    rotate_left
    · rw [ho] at h; cases h
    clear ho
    have HB := Hd.mk hb
    clear hb hw
    go_wp2_with (first | (refine (HR.out _).mono ?_; rintro e w' ⟨rfl, rfl⟩) | (refine (HT.out _).mono ?_; rintro e w' ⟨rfl, rfl⟩))
    go_ret2
    exact ⟨0, rfl, zf, z1, HB.out⟩
  have c1 := rlt0 t ht (nn_fin t hft)
  have c2 := fgt t longW ht long_facts.1
  rw [nn_fin t hft, long_facts.2.1] at c2
  rw [Bool.not_false, Bool.true_and, Bool.true_and] at c2
  rw [hft] at HT
  have F1 := Hd.mk hft
  clear hft
  by_cases h1 : rk t < 0
  · rw [okT_no2 t h1, if_pos rfl]
    rw [decide_eq_true h1] at c1
    clear h1
    go_enter Tryz.func19, Tryz.ntmps19
    go_wp2_with fail
    refine (HO.out _).mono ?_; rintro en w1 (⟨_, p, rfl, hw, hb⟩ | ⟨h, _⟩)
    rotate_left
    · rw [ho] at h; cases h
    clear ho
    have HB := Hd.mk hb
    clear hb hw
    go_wp2_with (first | (refine (HR.out _).mono ?_; rintro e w' ⟨rfl, rfl⟩) | (refine (HT.out _).mono ?_; rintro e w' ⟨rfl, rfl⟩))
    go_ret2
    exact ⟨0, rfl, zf, z1, HB.out⟩
  rw [decide_eq_false h1] at c1
  by_cases h2 : rk longW < rk t
  · rw [okT_no3 t h2, if_pos rfl]
    rw [decide_eq_true h2] at c2
    clear h1 h2
    go_enter Tryz.func19, Tryz.ntmps19
    go_wp2_with fail
    refine (HO.out _).mono ?_; rintro en w1 (⟨_, p, rfl, hw, hb⟩ | ⟨h, _⟩)
    rotate_left
    · rw [ho] at h; cases h
    clear ho
    have HB := Hd.mk hb
    clear hb hw
    go_wp2_with (first | (refine (HR.out _).mono ?_; rintro e w' ⟨rfl, rfl⟩) | (refine (HT.out _).mono ?_; rintro e w' ⟨rfl, rfl⟩))
    go_ret2
    exact ⟨0, rfl, zf, z1, HB.out⟩
  rw [decide_eq_false h2] at c2
  have hok : okT t = true := (okT_iff t).2 ⟨F1.out, by omega, by omega⟩
  rw [hok, if_neg (by decide)]
  clear h1 h2
  have HOK := Hd.mk hok
  clear hok
  have HN := Hd.mk tnumber_any
  have HFE := Hd.mk req0
  obtain ⟨Z, hz⟩ : ∃ Z, rtF k r t = Z := ⟨_, rfl⟩
  obtain ⟨okb, hkb⟩ : ∃ Z, ltB 0 (rtB k r t) = Z := ⟨_, rfl⟩
  rw [hz, hkb]
  obtain ⟨A, hA⟩ : ∃ A, (if okb = false then ((0 : Nat), (91 : Int)) else if (fin Z && !(mg Z == 0)) = false then (0, 91) else (Z, 0)) = A := ⟨_, rfl⟩
  rw [hA]
  have HA := Hd.mk hA
  clear hA
  have HZ := Hd.mk hz
  have HK := Hd.mk hkb
  clear hz hkb
  go_enter Tryz.func19, Tryz.ntmps19
  go_wp2_with fail
  refine (HO.out _).mono ?_; rintro en w1 (⟨_, p, rfl, hw, hb⟩ | ⟨h, _⟩)
  rotate_left
  · rw [ho] at h; cases h
  clear ho
  have HB := Hd.mk hb
  obtain ⟨f1, cc1, f2, cc2, hc1, hc2, hf1, hf2⟩ := hw
  have heg := hf1.enter
  have hC := fun w (hb : Below w1.heap.size w1 w) => hf1.calls r t w hb hr ht F0.out HOK.out
  rw [HZ.out, HK.out] at hC
  have HC := Hd.mk hC
  clear hC
  clear hb hf1 hf2
  go_wp2_with (first | (refine (HR.out _).mono ?_; rintro e w' ⟨rfl, rfl⟩) | (refine (HT.out _).mono ?_; rintro e w' ⟨rfl, rfl⟩))
  refine (HC.out _ (Below.refl _ _)).mono ?_; rintro en w2 ⟨x, rfl, hx, hcx, hb2⟩
  have HB2 := Hd.mk (HB.out.trans (hb2.mono HB.out.size))
  clear hb2 HB HC heg hc1 hc2
  have HX := Hd.mk hx
  have HCX := Hd.mk hcx
  have hfx : fin x = fin Z := by rw [← hcx, fin_cn]
  clear hcx
  cases okb
  · obtain rfl : (0, 91) = A := by rw [← HA.out, if_pos rfl]
    clear hfx
    go_wp2_with fail
    go_ret2
    exact ⟨0, rfl, zf, z1, HB2.out⟩
  have HNx := Hd.mk (HN.out x hx)
  have HFE2 := Hd.mk (HFE.out x hx)
  clear hx HFE HN
  cases hfz : fin Z
  · rw [hfx, hfz] at HNx
    obtain rfl : (0, 91) = A := by rw [← HA.out, if_neg (by decide), hfz, Bool.false_and, if_pos rfl]
    clear hfx hfz
    go_wp2_with (refine (HNx.out _).mono ?_; rintro e w' ⟨rfl, rfl⟩)
    go_ret2
    exact ⟨0, rfl, zf, z1, HB2.out⟩
  have hxz : x = Z := by rw [← HCX.out, mg_cn0 x (by rw [hfx, hfz])]
  have he := HFE2.out (by rw [hfx, hfz])
  rw [hxz] at he
  rw [hfx, hfz] at HNx
  have HFZ := Hd.mk hfz
  clear hfx hfz
  cases hm : (mg Z == 0)
  · rw [hm] at he
    rw [← hxz] at he
    obtain rfl : (Z, 0) = A := by rw [← HA.out, if_neg (by decide), HFZ.out, hm, if_neg (by decide)]
    clear hxz hm
    go_wp2_with (refine (HNx.out _).mono ?_; rintro e w' ⟨rfl, rfl⟩)
    go_ret2
    exact ⟨x, rfl, HX.out, HCX.out, HB2.out⟩
  · rw [hm] at he
    rw [← hxz] at he
    obtain rfl : (0, 91) = A := by rw [← HA.out, if_neg (by decide), HFZ.out, hm, if_pos (by decide)]
    clear hxz hm
    go_wp2_with (refine (HNx.out _).mono ?_; rintro e w' ⟨rfl, rfl⟩)
    go_ret2
    exact ⟨0, rfl, zf, z1, HB2.out⟩

end Go.Proofs.YtpegicgahbambaaGreat

/- The reference's factors (tenorref9). -/
namespace Go.Proofs.YtpegicgahbambaaGreat
open Go.RowKit
set_option linter.unusedSimpArgs false
set_option linter.unusedVariables false

set_option maxHeartbeats 800000 in
theorem kind9_any (k : Int) (w : World) : Calls Tryz.prog 21 #[.int .i64 k] w fun e w' => e = .returned (.bool (okK k)) ∧ w = w' := by
  by_cases h1 : 1 ≤ k
  · have e1 := decide_eq_true h1
    have H : Hd (okK k = decide (k ≤ 6)) := ⟨by unfold okK; rw [e1, Bool.true_and]⟩
    clear h1
    go_enter Tryz.func21, Tryz.ntmps21
    go_wp2_with fail
    go_ret
    exact ⟨by rw [H.out]; rfl, rfl⟩
  · have e1 := decide_eq_false h1
    have H : Hd (okK k = false) := ⟨by unfold okK; rw [e1, Bool.false_and]⟩
    clear h1
    go_enter Tryz.func21, Tryz.ntmps21
    go_wp2_with fail
    go_ret
    exact ⟨by rw [H.out]; rfl, rfl⟩

theorem above9_any (x : Nat) (hx : F64 x) (w : World) : Calls Tryz.prog 14 #[.int .u64 x] w fun e w' => e = .returned (.bool (ltB 0 x)) ∧ w = w' := by
  have HL := Hd.mk (rLt_any 0 x ⟨by decide⟩ hx)
  generalize ltB 0 x = b at *
  go_enter Tryz.func14, Tryz.ntmps14
  go_wp2_with fail
  refine (HL.out _).mono ?_; rintro en w' ⟨rfl, rfl⟩
  go_wp2_with fail
  go_ret
  exact ⟨rfl, rfl⟩

theorem long_foi : floatOfInt .f64 1048576 = longW := by decide +kernel
theorem long9_any (x : Nat) (hx : F64 x) (w : World) : Calls Tryz.prog 37 #[.int .u64 x] w fun e w' => e = .returned (.bool (ltB longW x)) ∧ Below w.heap.size w w' := by
  have hi := rInt_any 1048576 (by decide) (by decide)
  rw [long_foi] at hi
  have HI := Hd.mk hi
  have HL := Hd.mk (rLt_any longW x ⟨by decide⟩ hx)
  clear hi
  generalize ltB longW x = b at *
  go_enter Tryz.func37, Tryz.ntmps37
  go_wp2_with fail
  refine (HI.out _).mono ?_; rintro en w1 ⟨rfl, hb⟩
  go_wp2_with fail
  refine (HL.out _).mono ?_; rintro en w' ⟨rfl, rfl⟩
  go_wp2_with fail
  go_ret
  exact ⟨rfl, hb⟩

def mI (k : Int) : Int := if k = 2 then 1 else if k = 3 then 2 else if k = 4 then 4 else if k = 5 then 12 else 0
theorem mI_rt (k : Int) : floatOfInt .f64 (mI k) = rtM k := by
  unfold mI rtM
  by_cases h2 : k = 2
  · rw [if_pos h2, if_pos h2]; decide +kernel
  by_cases h3 : k = 3
  · rw [if_neg h2, if_neg h2, if_pos h3, if_pos h3]; decide +kernel
  by_cases h4 : k = 4
  · rw [if_neg h2, if_neg h2, if_neg h3, if_neg h3, if_pos h4, if_pos h4]; decide +kernel
  by_cases h5 : k = 5
  · rw [if_neg h2, if_neg h2, if_neg h3, if_neg h3, if_neg h4, if_neg h4, if_pos h5, if_pos h5]; decide +kernel
  rw [if_neg h2, if_neg h2, if_neg h3, if_neg h3, if_neg h4, if_neg h4, if_neg h5, if_neg h5]; decide +kernel
theorem mI_bd (k : Int) : -9223372036854775808 ≤ mI k ∧ mI k ≤ 9223372036854775807 := by
  unfold mI; repeat' split
  all_goals omega

set_option maxHeartbeats 800000 in
theorem times9_any (k : Int) (w : World) : Calls Tryz.prog 39 #[.int .i64 k] w fun e w' => e = .returned (.int .i64 (mI k)) ∧ w = w' := by
  by_cases h2 : k = 2
  · subst h2
    go_enter Tryz.func39, Tryz.ntmps39
    go_wp2_with fail
    go_ret
    exact ⟨rfl, rfl⟩
  by_cases h3 : k = 3
  · subst h3
    go_enter Tryz.func39, Tryz.ntmps39
    go_wp2_with fail
    go_ret
    exact ⟨rfl, rfl⟩
  by_cases h4 : k = 4
  · subst h4
    go_enter Tryz.func39, Tryz.ntmps39
    go_wp2_with fail
    go_ret
    exact ⟨rfl, rfl⟩
  by_cases h5 : k = 5
  · subst h5
    go_enter Tryz.func39, Tryz.ntmps39
    go_wp2_with fail
    go_ret
    exact ⟨rfl, rfl⟩
  have hm : mI k = 0 := by unfold mI; rw [if_neg h2, if_neg h3, if_neg h4, if_neg h5]
  rw [hm]
  have e2 : (k == 2) = false := by simpa using h2
  have e3 : (k == 3) = false := by simpa using h3
  have e4 : (k == 4) = false := by simpa using h4
  have e5 : (k == 5) = false := by simpa using h5
  clear h2 h3 h4 h5 hm
  go_enter Tryz.func39, Tryz.ntmps39
  go_wp2_with fail
  go_ret
  exact ⟨rfl, rfl⟩

/-- A word that is z, unseen; the world may have grown. -/
def UEx (z : Nat) (w : World) (e : Ending) (w' : World) : Prop := ∃ q : Nat, e = .returned (.int .u64 q) ∧ Hd (q = z) ∧ F64 q ∧ Hd (Below w.heap.size w w')
theorem URet.ex {z : Nat} {w : World} {e : Ending} {w' : World} (hz : F64 z) (h : URet z w e w') : UEx z w e w' := ⟨z, h.1, ⟨rfl⟩, hz, ⟨h.2⟩⟩
theorem ex_add (u v : Nat) (hu : F64 u) (hv : F64 v) (w : World) : Calls Tryz.prog 32 #[.int .u64 u, .int .u64 v] w (UEx (fadd u v) w) := (rAdd_any u v hu hv w).mono fun _ _ h => URet.ex (F64_fadd u v) h
theorem ex_sub (u v : Nat) (hu : F64 u) (hv : F64 v) (w : World) : Calls Tryz.prog 16 #[.int .u64 u, .int .u64 v] w (UEx (fsub u v) w) := (rSub_any u v hu hv w).mono fun _ _ h => URet.ex (F64_fsub u v) h
theorem ex_mul (u v : Nat) (hu : F64 u) (hv : F64 v) (w : World) : Calls Tryz.prog 40 #[.int .u64 u, .int .u64 v] w (UEx (fmul u v) w) := (rMul_any u v hu hv w).mono fun _ _ h => URet.ex (F64_fmul u v) h
theorem ex_div (u v : Nat) (hu : F64 u) (hv : F64 v) (w : World) : Calls Tryz.prog 15 #[.int .u64 u, .int .u64 v] w (UEx (fdiv u v) w) := (rDiv_any u v hu hv w).mono fun _ _ h => URet.ex (F64_fdiv u v) h
theorem ex_exp (u : Nat) (hu : F64 u) (w : World) : Calls Tryz.prog 41 #[.int .u64 u] w (UEx (fexp u) w) := (rExp_any u hu w).mono fun _ _ h => URet.ex (F64_fexp u) h
theorem ex_ln (u : Nat) (hu : F64 u) (w : World) : Calls Tryz.prog 42 #[.int .u64 u] w (UEx (fln u) w) := (rLn_any u hu w).mono fun _ _ h => URet.ex (F64_fln u hu) h
theorem ex_flip (u : Nat) (hu : F64 u) (w : World) : Calls Tryz.prog 33 #[.int .u64 u] w (UEx (flip64 u) w) := (rFlip_any u hu w).mono fun e w' h => ⟨_, h.1, ⟨rfl⟩, F64_flip u, ⟨by rw [← h.2]; exact Below.refl _ _⟩⟩
theorem ex_int (k : Int) (w : World) : Calls Tryz.prog 38 #[.int .i64 (mI k)] w (UEx (rtM k) w) := (rInt_any (mI k) (mI_bd k).1 (mI_bd k).2 w).mono fun _ _ h => by rw [mI_rt] at h; exact URet.ex (by rw [← mI_rt]; exact F64_foi _) h

end Go.Proofs.YtpegicgahbambaaGreat

/- The reference's Factor (tenorref9). -/
namespace Go.Proofs.YtpegicgahbambaaGreat
open Go.RowKit
set_option linter.unusedSimpArgs false
set_option linter.unusedVariables false

/-- The answer when the kind and the numbers are right. -/
def facB (k : Int) (r t : Nat) : Nat × Int := if ltB 0 (rtB k r t) = false then (0, 91) else if (fin (rtF k r t) && !(mg (rtF k r t) == 0)) = false then (0, 91) else (rtF k r t, 0)
theorem facA_eq (k : Int) (r t : Nat) (hk : okK k = true) (hr : fin r = true) (ht : okT t = true) : facA k r t = facB k r t := by
  unfold facA facB; rw [if_neg (by rw [hk]; decide), if_neg (by rw [hr, ht]; decide)]
theorem okT_lt (t : Nat) (h : fin t = true) : okT t = (!ltB t 0 && !ltB longW t) := by
  unfold okT ltB
  rw [h, nn_fin t h, z0_facts.2.1, z0_facts.2.2, long_facts.2.1]
  simp only [Bool.not_false, Bool.true_and]
  by_cases a : rk t < 0 <;> by_cases b : rk longW < rk t <;> simp [a, b] <;> omega

def AnsRet (A : Nat × Int) (w : World) (e : Ending) (w' : World) : Prop := e = .returned (.tuple #[.int .u64 (A.1 : Nat), .int .i64 A.2]) ∧ Below w.heap.size w w'

set_option maxHeartbeats 3200000 in
set_option maxRecDepth 100000 in
theorem rFactor_arg (k : Int) (r t : Nat) (hr : F64 r) (ht : F64 t) (w : World) (hno : (okK k && fin r && okT t) = false) :
    Calls Tryz.prog 22 #[.int .i64 k, .int .u64 r, .int .u64 t] w (AnsRet (facA k r t) w) := by
  have HK := Hd.mk (kind9_any k)
  have HR := Hd.mk (rNumber_any r hr)
  have HT := Hd.mk (rNumber_any t ht)
  have HL := Hd.mk (rLt_any t 0 ht ⟨by decide⟩)
  have HO := Hd.mk (long9_any t ht)
  cases ho : okK k
  · obtain ⟨A, hA⟩ : ∃ A, facA k r t = A := ⟨_, rfl⟩
    obtain rfl : (0, 90) = A := by rw [← hA]; unfold facA; rw [if_pos ho]
    rw [hA]
    rw [ho] at HK
    clear hA ho hno
    go_enter Tryz.func22, Tryz.ntmps22
    go_wp2_with fail
    refine (HK.out _).mono ?_; rintro e w' ⟨rfl, rfl⟩
    go_wp2_with fail
    go_ret2
    exact ⟨rfl, Below.refl _ _⟩
  rw [ho] at HK
  rw [ho, Bool.true_and] at hno
  obtain ⟨A, hA⟩ : ∃ A, facA k r t = A := ⟨_, rfl⟩
  obtain rfl : (0, 91) = A := by rw [← hA]; unfold facA; rw [if_neg (by rw [ho]; decide), if_pos hno]
  rw [hA]
  clear hA ho
  cases hfr : fin r
  · rw [hfr] at HR
    clear hfr hno
    go_enter Tryz.func22, Tryz.ntmps22
    go_wp2_with (first | (refine (HK.out _).mono ?_; rintro e w' ⟨rfl, rfl⟩) | (refine (HR.out _).mono ?_; rintro e w' ⟨rfl, rfl⟩))
    go_ret2
    exact ⟨rfl, Below.refl _ _⟩
  rw [hfr] at HR
  rw [hfr, Bool.true_and] at hno
  cases hft : fin t
  · rw [hft] at HT
    clear hft hno hfr
    go_enter Tryz.func22, Tryz.ntmps22
    go_wp2_with (first | (refine (HK.out _).mono ?_; rintro e w' ⟨rfl, rfl⟩) | (refine (HR.out _).mono ?_; rintro e w' ⟨rfl, rfl⟩) | (refine (HT.out _).mono ?_; rintro e w' ⟨rfl, rfl⟩))
    go_ret2
    exact ⟨rfl, Below.refl _ _⟩
  rw [hft] at HT
  rw [okT_lt t hft] at hno
  clear hft hfr
  cases hl : ltB t 0
  · rw [hl] at HL hno
    have hlo : ltB longW t = true := by simpa using hno
    rw [hlo] at HO
    clear hno hl hlo
    go_enter Tryz.func22, Tryz.ntmps22
    go_wp2_with (first | (refine (HK.out _).mono ?_; rintro e w' ⟨rfl, rfl⟩) | (refine (HR.out _).mono ?_; rintro e w' ⟨rfl, rfl⟩) | (refine (HT.out _).mono ?_; rintro e w' ⟨rfl, rfl⟩) | (refine (HL.out _).mono ?_; rintro e w' ⟨rfl, rfl⟩))
    refine (HO.out _).mono ?_; rintro en w1 ⟨rfl, hb⟩
    have B1 := Hd.mk hb
    clear hb
    go_wp2_with fail
    go_ret2
    exact ⟨rfl, B1.out⟩
  · rw [hl] at HL
    clear hno hl
    go_enter Tryz.func22, Tryz.ntmps22
    go_wp2_with (first | (refine (HK.out _).mono ?_; rintro e w' ⟨rfl, rfl⟩) | (refine (HR.out _).mono ?_; rintro e w' ⟨rfl, rfl⟩) | (refine (HT.out _).mono ?_; rintro e w' ⟨rfl, rfl⟩) | (refine (HL.out _).mono ?_; rintro e w' ⟨rfl, rfl⟩))
    go_ret2
    exact ⟨rfl, Below.refl _ _⟩

end Go.Proofs.YtpegicgahbambaaGreat

/- The reference's Factor (tenorref9) where the kind and the numbers are right. -/
namespace Go.Proofs.YtpegicgahbambaaGreat
open Go.RowKit
set_option linter.unusedSimpArgs false
set_option linter.unusedVariables false

def endA (Z : Nat) : Nat × Int := if (fin Z && !(mg Z == 0)) = false then (0, 91) else (Z, 0)
theorem endA_no (Z : Nat) (h : fin Z = false) : endA Z = (0, 91) := by unfold endA; rw [h, Bool.false_and, if_pos rfl]
theorem endA_zero (Z : Nat) (h : mg Z = 0) : endA Z = (0, 91) := by unfold endA; rw [h, if_pos (by simp)]
theorem endA_ok (Z : Nat) (h : fin Z = true) (h0 : mg Z ≠ 0) : endA Z = (Z, 0) := by unfold endA; rw [h, if_neg (by simp [h0])]
theorem facB_no (k : Int) (r t : Nat) (h : ltB 0 (rtB k r t) = false) : facB k r t = (0, 91) := by unfold facB; rw [if_pos h]
theorem facB_go (k : Int) (r t : Nat) (h : ltB 0 (rtB k r t) = true) : facB k r t = endA (rtF k r t) := by unfold facB endA; rw [if_neg (by rw [h]; decide)]
theorem rt1B (r t : Nat) : rtB 1 r t = fadd oneW (fmul r t) := by unfold rtB; rw [if_pos rfl]
theorem rt1F (r t : Nat) : rtF 1 r t = fdiv oneW (fadd oneW (fmul r t)) := by unfold rtF; rw [if_pos rfl, rt1B]
theorem rtkB (k : Int) (r t : Nat) (h1 : k ≠ 1) (h6 : k ≠ 6) : rtB k r t = fadd oneW (fdiv r (rtM k)) := by unfold rtB; rw [if_neg h1, if_neg h6]
theorem rtkF (k : Int) (r t : Nat) (h1 : k ≠ 1) (h6 : k ≠ 6) : rtF k r t = fexp (flip64 (fmul (fmul (rtM k) t) (fln (fadd oneW (fdiv r (rtM k)))))) := by unfold rtF; rw [if_neg h1, if_neg h6, rtkB k r t h1 h6]
theorem okT_parts (t : Nat) (h : okT t = true) : fin t = true ∧ ltB t 0 = false ∧ ltB longW t = false := by
  have hf := ((okT_iff t).1 h).1
  rw [okT_lt t hf] at h
  simp at h
  exact ⟨hf, h.1, h.2⟩




set_option maxHeartbeats 3200000 in
set_option maxRecDepth 100000 in
theorem rFactor_one (r t : Nat) (hr : F64 r) (ht : F64 t) (hfr : fin r = true) (hok : okT t = true) (w : World) :
    Calls Tryz.prog 22 #[.int .i64 1, .int .u64 r, .int .u64 t] w (AnsRet (facB 1 r t) w) := by
  obtain ⟨k, hk1⟩ : ∃ k : Int, k = 1 := ⟨1, rfl⟩
  have hk : okK k = true := by rw [hk1]; decide
  obtain ⟨t1, t2, t3⟩ := okT_parts t hok
  have HK := Hd.mk (kind9_any k)
  have HR := Hd.mk (rNumber_any r hr)
  have HT := Hd.mk (rNumber_any t ht)
  have HL := Hd.mk (rLt_any t 0 ht ⟨by decide⟩)
  have HO := Hd.mk (long9_any t ht)
  have HTi := Hd.mk (times9_any k)
  have HI := Hd.mk (ex_int k)
  rw [t1] at HT
  rw [t2] at HL
  rw [t3] at HO
  rw [hfr] at HR
  rw [hk] at HK
  clear t1 t2 t3 hfr hk hok
  obtain ⟨A, hA⟩ : ∃ A, facB 1 r t = A := ⟨_, rfl⟩
  rw [hA]
  have HB := Hd.mk (facB_no 1 r t)
  have HG := Hd.mk (facB_go 1 r t)
  rw [hA] at HB HG
  have HE := Hd.mk (rt1B r t)
  have HE2 := Hd.mk (rt1F r t)
  clear hA
  subst hk1
  go_enter Tryz.func22, Tryz.ntmps22
  go_wp2_with (first | (refine (HK.out _).mono ?_; rintro e w' ⟨rfl, rfl⟩) | (refine (HR.out _).mono ?_; rintro e w' ⟨rfl, rfl⟩) | (refine (HT.out _).mono ?_; rintro e w' ⟨rfl, rfl⟩) | (refine (HL.out _).mono ?_; rintro e w' ⟨rfl, rfl⟩))
  refine (HO.out _).mono ?_
  rintro en w1 ⟨rfl, hb⟩
  have B1 := Hd.mk hb
  clear hb
  go_wp2_with fail
  refine (HTi.out _).mono ?_
  rintro en w' ⟨rfl, rfl⟩
  go_wp2_with fail
  refine (HI.out _).mono ?_
  rintro en w2 ⟨m, rfl, HM, FM, hb⟩
  have B2 := Hd.mk (B1.out.trans (hb.out.mono B1.out.size))
  clear hb
  go_wp2_with fail
  refine (ex_mul r t hr ht _).mono ?_
  rintro en w3 ⟨p, rfl, HP, FP, hb⟩
  have B3 := Hd.mk (B2.out.trans (hb.out.mono B2.out.size))
  clear hb
  go_wp2_with fail
  refine (ex_add oneW p one_w.w FP _).mono ?_
  rintro en w4 ⟨b, rfl, HBv, FB, hb⟩
  have B4 := Hd.mk (B3.out.trans (hb.out.mono B3.out.size))
  clear hb
  have HBB : Hd (rtB 1 r t = b) := ⟨by rw [HE.out, HBv.out, HP.out]⟩
  have HAb := Hd.mk (above9_any b FB)
  cases hl : ltB 0 b
  · obtain rfl : A = (0, 91) := HB.out (by rw [HBB.out, hl])
    rw [hl] at HAb
    clear hl
    go_wp2_with (refine (HAb.out _).mono ?_; rintro e w' ⟨rfl, rfl⟩)
    go_ret2
    exact ⟨rfl, B4.out⟩
  have HA0 := HG.out (by rw [HBB.out, hl])
  rw [hl] at HAb
  clear hl
  go_wp2_with (refine (HAb.out _).mono ?_; rintro e w' ⟨rfl, rfl⟩)
  refine (ex_div oneW b one_w.w FB _).mono ?_
  rintro en w5 ⟨q, rfl, HQ, FQ, hb⟩
  have BQ := Hd.mk (B4.out.trans (hb.out.mono B4.out.size))
  have HA : Hd (endA q = A) := ⟨by rw [HA0, HE2.out, HQ.out, HBv.out, HP.out]⟩
  clear hb HA0 HQ
  have HNq := Hd.mk (rNumber_any q FQ)
  have HSq := Hd.mk (rSize_any q FQ)
  cases hf : fin q
  · rw [hf] at HNq
    obtain rfl : (0, 91) = A := by rw [← HA.out, endA_no q hf]
    clear hf
    go_wp2_with (refine (HNq.out _).mono ?_; rintro e w' ⟨rfl, rfl⟩)
    go_ret2
    exact ⟨rfl, BQ.out⟩
  · rw [hf] at HNq
    by_cases hm : mg q = 0
    · obtain rfl : (0, 91) = A := by rw [← HA.out, endA_zero q hm]
      rw [hm] at HSq
      clear hf hm
      go_wp2_with (first | (refine (HNq.out _).mono ?_; rintro e w' ⟨rfl, rfl⟩) | (refine (HSq.out _).mono ?_; rintro e w' ⟨rfl, rfl⟩))
      go_ret2
      exact ⟨rfl, BQ.out⟩
    · obtain rfl : (q, 0) = A := by rw [← HA.out, endA_ok q hf hm]
      have hz : (((mg q : Nat) : Int) == 0) = false := by simpa using hm
      have hz2 : decide (((mg q : Nat) : Int) = 0) = false := by simpa using hm
      clear hf hm
      generalize mg q = s at *
      go_wp2_with (first | (refine (HNq.out _).mono ?_; rintro e w' ⟨rfl, rfl⟩) | (refine (HSq.out _).mono ?_; rintro e w' ⟨rfl, rfl⟩))
      go_ret2
      exact ⟨rfl, BQ.out⟩

set_option maxHeartbeats 3200000 in
set_option maxRecDepth 100000 in
theorem rFactor_six (r t : Nat) (hr : F64 r) (ht : F64 t) (hfr : fin r = true) (hok : okT t = true) (w : World) :
    Calls Tryz.prog 22 #[.int .i64 6, .int .u64 r, .int .u64 t] w (AnsRet (facB 6 r t) w) := by
  obtain ⟨k, hk1⟩ : ∃ k : Int, k = 6 := ⟨6, rfl⟩
  have hk : okK k = true := by rw [hk1]; decide
  obtain ⟨t1, t2, t3⟩ := okT_parts t hok
  have HK := Hd.mk (kind9_any k)
  have HR := Hd.mk (rNumber_any r hr)
  have HT := Hd.mk (rNumber_any t ht)
  have HL := Hd.mk (rLt_any t 0 ht ⟨by decide⟩)
  have HO := Hd.mk (long9_any t ht)
  have HTi := Hd.mk (times9_any k)
  have HI := Hd.mk (ex_int k)
  rw [t1] at HT
  rw [t2] at HL
  rw [t3] at HO
  rw [hfr] at HR
  rw [hk] at HK
  clear t1 t2 t3 hfr hk hok
  obtain ⟨A, hA⟩ : ∃ A, facB 6 r t = A := ⟨_, rfl⟩
  rw [hA]
  have HG := Hd.mk (facB_go 6 r t (ok6 r t))
  rw [hA] at HG
  have HE2 := Hd.mk (rt6F r t)
  clear hA
  subst hk1
  go_enter Tryz.func22, Tryz.ntmps22
  go_wp2_with (first | (refine (HK.out _).mono ?_; rintro e w' ⟨rfl, rfl⟩) | (refine (HR.out _).mono ?_; rintro e w' ⟨rfl, rfl⟩) | (refine (HT.out _).mono ?_; rintro e w' ⟨rfl, rfl⟩) | (refine (HL.out _).mono ?_; rintro e w' ⟨rfl, rfl⟩))
  refine (HO.out _).mono ?_
  rintro en w1 ⟨rfl, hb⟩
  have B1 := Hd.mk hb
  clear hb
  go_wp2_with fail
  refine (HTi.out _).mono ?_
  rintro en w' ⟨rfl, rfl⟩
  go_wp2_with fail
  refine (HI.out _).mono ?_
  rintro en w2 ⟨m, rfl, HM, FM, hb⟩
  have B2 := Hd.mk (B1.out.trans (hb.out.mono B1.out.size))
  clear hb
  go_wp2_with fail
  refine (ex_mul r t hr ht _).mono ?_
  rintro en w3 ⟨p, rfl, HP, FP, hb⟩
  have B3 := Hd.mk (B2.out.trans (hb.out.mono B2.out.size))
  clear hb
  go_wp2_with fail
  refine (ex_flip p FP _).mono ?_
  rintro en w4 ⟨b, rfl, HBv, FB, hb⟩
  have B4 := Hd.mk (B3.out.trans (hb.out.mono B3.out.size))
  clear hb
  go_wp2_with fail
  refine (ex_exp b FB _).mono ?_
  rintro en w5 ⟨q, rfl, HQ, FQ, hb⟩
  have BQ := Hd.mk (B4.out.trans (hb.out.mono B4.out.size))
  have HA : Hd (endA q = A) := ⟨by rw [HG.out, HE2.out, HQ.out, HBv.out, HP.out]⟩
  clear hb HQ
  have HNq := Hd.mk (rNumber_any q FQ)
  have HSq := Hd.mk (rSize_any q FQ)
  cases hf : fin q
  · rw [hf] at HNq
    obtain rfl : (0, 91) = A := by rw [← HA.out, endA_no q hf]
    clear hf
    go_wp2_with (refine (HNq.out _).mono ?_; rintro e w' ⟨rfl, rfl⟩)
    go_ret2
    exact ⟨rfl, BQ.out⟩
  · rw [hf] at HNq
    by_cases hm : mg q = 0
    · obtain rfl : (0, 91) = A := by rw [← HA.out, endA_zero q hm]
      rw [hm] at HSq
      clear hf hm
      go_wp2_with (first | (refine (HNq.out _).mono ?_; rintro e w' ⟨rfl, rfl⟩) | (refine (HSq.out _).mono ?_; rintro e w' ⟨rfl, rfl⟩))
      go_ret2
      exact ⟨rfl, BQ.out⟩
    · obtain rfl : (q, 0) = A := by rw [← HA.out, endA_ok q hf hm]
      have hz : (((mg q : Nat) : Int) == 0) = false := by simpa using hm
      have hz2 : decide (((mg q : Nat) : Int) = 0) = false := by simpa using hm
      clear hf hm
      generalize mg q = s at *
      go_wp2_with (first | (refine (HNq.out _).mono ?_; rintro e w' ⟨rfl, rfl⟩) | (refine (HSq.out _).mono ?_; rintro e w' ⟨rfl, rfl⟩))
      go_ret2
      exact ⟨rfl, BQ.out⟩

set_option maxHeartbeats 3200000 in
set_option maxRecDepth 100000 in
theorem rFactor_more (k : Int) (r t : Nat) (hr : F64 r) (ht : F64 t) (hk : okK k = true) (h1 : k ≠ 1) (h6 : k ≠ 6) (hfr : fin r = true) (hok : okT t = true) (w : World) :
    Calls Tryz.prog 22 #[.int .i64 k, .int .u64 r, .int .u64 t] w (AnsRet (facB k r t) w) := by
  obtain ⟨t1, t2, t3⟩ := okT_parts t hok
  have HK := Hd.mk (kind9_any k)
  have HR := Hd.mk (rNumber_any r hr)
  have HT := Hd.mk (rNumber_any t ht)
  have HL := Hd.mk (rLt_any t 0 ht ⟨by decide⟩)
  have HO := Hd.mk (long9_any t ht)
  have HTi := Hd.mk (times9_any k)
  have HI := Hd.mk (ex_int k)
  rw [t1] at HT
  rw [t2] at HL
  rw [t3] at HO
  rw [hfr] at HR
  rw [hk] at HK
  clear t1 t2 t3 hfr hk hok
  obtain ⟨A, hA⟩ : ∃ A, facB k r t = A := ⟨_, rfl⟩
  rw [hA]
  have HB := Hd.mk (facB_no k r t)
  have HG := Hd.mk (facB_go k r t)
  rw [hA] at HB HG
  have HE := Hd.mk (rtkB k r t h1 h6)
  have HE2 := Hd.mk (rtkF k r t h1 h6)
  have e1 : (k == 1) = false := by simpa using h1
  have e6 : (k == 6) = false := by simpa using h6
  clear hA h1 h6
  go_enter Tryz.func22, Tryz.ntmps22
  go_wp2_with (first | (refine (HK.out _).mono ?_; rintro e w' ⟨rfl, rfl⟩) | (refine (HR.out _).mono ?_; rintro e w' ⟨rfl, rfl⟩) | (refine (HT.out _).mono ?_; rintro e w' ⟨rfl, rfl⟩) | (refine (HL.out _).mono ?_; rintro e w' ⟨rfl, rfl⟩))
  refine (HO.out _).mono ?_
  rintro en w1 ⟨rfl, hb⟩
  have B1 := Hd.mk hb
  clear hb
  go_wp2_with fail
  refine (HTi.out _).mono ?_
  rintro en w' ⟨rfl, rfl⟩
  go_wp2_with fail
  refine (HI.out _).mono ?_
  rintro en w2 ⟨m, rfl, HM, FM, hb⟩
  have B2 := Hd.mk (B1.out.trans (hb.out.mono B1.out.size))
  clear hb
  go_wp2_with fail
  refine (ex_div r m hr FM _).mono ?_
  rintro en w3 ⟨p, rfl, HP, FP, hb⟩
  have B3 := Hd.mk (B2.out.trans (hb.out.mono B2.out.size))
  clear hb
  go_wp2_with fail
  refine (ex_add oneW p one_w.w FP _).mono ?_
  rintro en w4 ⟨b, rfl, HBv, FB, hb⟩
  have B4 := Hd.mk (B3.out.trans (hb.out.mono B3.out.size))
  clear hb
  have HBB : Hd (rtB k r t = b) := ⟨by rw [HE.out, HBv.out, HP.out, HM.out]⟩
  have HAb := Hd.mk (above9_any b FB)
  cases hl : ltB 0 b
  · obtain rfl : A = (0, 91) := HB.out (by rw [HBB.out, hl])
    rw [hl] at HAb
    clear hl
    go_wp2_with (refine (HAb.out _).mono ?_; rintro e w' ⟨rfl, rfl⟩)
    go_ret2
    exact ⟨rfl, B4.out⟩
  have HA0 := HG.out (by rw [HBB.out, hl])
  rw [hl] at HAb
  clear hl
  go_wp2_with (refine (HAb.out _).mono ?_; rintro e w' ⟨rfl, rfl⟩)
  refine (ex_mul m t FM ht _).mono ?_
  rintro en w5 ⟨p2, rfl, HP2, FP2, hb⟩
  have B5 := Hd.mk (B4.out.trans (hb.out.mono B4.out.size))
  clear hb
  go_wp2_with fail
  refine (ex_ln b FB _).mono ?_
  rintro en w6 ⟨l, rfl, HLn, FL, hb⟩
  have B6 := Hd.mk (B5.out.trans (hb.out.mono B5.out.size))
  clear hb
  go_wp2_with fail
  refine (ex_mul p2 l FP2 FL _).mono ?_
  rintro en w7 ⟨p3, rfl, HP3, FP3, hb⟩
  have B7 := Hd.mk (B6.out.trans (hb.out.mono B6.out.size))
  clear hb
  go_wp2_with fail
  refine (ex_flip p3 FP3 _).mono ?_
  rintro en w8 ⟨p4, rfl, HP4, FP4, hb⟩
  have B8 := Hd.mk (B7.out.trans (hb.out.mono B7.out.size))
  clear hb
  go_wp2_with fail
  refine (ex_exp p4 FP4 _).mono ?_
  rintro en w9 ⟨q, rfl, HQ, FQ, hb⟩
  have BQ := Hd.mk (B8.out.trans (hb.out.mono B8.out.size))
  have HA : Hd (endA q = A) := ⟨by rw [HA0, HE2.out, HQ.out, HP4.out, HP3.out, HP2.out, HLn.out, HBv.out, HP.out, HM.out]⟩
  clear hb HA0 HQ
  have HNq := Hd.mk (rNumber_any q FQ)
  have HSq := Hd.mk (rSize_any q FQ)
  cases hf : fin q
  · rw [hf] at HNq
    obtain rfl : (0, 91) = A := by rw [← HA.out, endA_no q hf]
    clear hf
    go_wp2_with (refine (HNq.out _).mono ?_; rintro e w' ⟨rfl, rfl⟩)
    go_ret2
    exact ⟨rfl, BQ.out⟩
  · rw [hf] at HNq
    by_cases hm : mg q = 0
    · obtain rfl : (0, 91) = A := by rw [← HA.out, endA_zero q hm]
      rw [hm] at HSq
      clear hf hm
      go_wp2_with (first | (refine (HNq.out _).mono ?_; rintro e w' ⟨rfl, rfl⟩) | (refine (HSq.out _).mono ?_; rintro e w' ⟨rfl, rfl⟩))
      go_ret2
      exact ⟨rfl, BQ.out⟩
    · obtain rfl : (q, 0) = A := by rw [← HA.out, endA_ok q hf hm]
      have hz : (((mg q : Nat) : Int) == 0) = false := by simpa using hm
      have hz2 : decide (((mg q : Nat) : Int) = 0) = false := by simpa using hm
      clear hf hm
      generalize mg q = s at *
      go_wp2_with (first | (refine (HNq.out _).mono ?_; rintro e w' ⟨rfl, rfl⟩) | (refine (HSq.out _).mono ?_; rintro e w' ⟨rfl, rfl⟩))
      go_ret2
      exact ⟨rfl, BQ.out⟩

theorem rFactor_any (k : Int) (r t : Nat) (hr : F64 r) (ht : F64 t) (w : World) :
    Calls Tryz.prog 22 #[.int .i64 k, .int .u64 r, .int .u64 t] w (AnsRet (facA k r t) w) := by
  cases hno : (okK k && fin r && okT t)
  · exact rFactor_arg k r t hr ht w hno
  · rw [Bool.and_eq_true, Bool.and_eq_true] at hno
    obtain ⟨⟨hk, hfr⟩, hok⟩ := hno
    rw [facA_eq k r t hk hfr hok]
    by_cases h1 : k = 1
    · subst h1; exact rFactor_one r t hr ht hfr hok w
    by_cases h6 : k = 6
    · subst h6; exact rFactor_six r t hr ht hfr hok w
    exact rFactor_more k r t hr ht hk h1 h6 hfr hok w

end Go.Proofs.YtpegicgahbambaaGreat

/- The walks of rate.Yield and rate.Forward. -/
namespace Go.Proofs.YtpegicgahbambaaGreat
open Go.RowKit
set_option linter.unusedSimpArgs false
set_option linter.unusedVariables false

def abv (x : Nat) : Bool := fin x && ltB 0 x
theorem okT_abv (t : Nat) (h : abv t = true) : fin t = true ∧ 0 < rk t := by
  unfold abv at h
  rw [Bool.and_eq_true] at h
  obtain ⟨a, b⟩ := h
  unfold ltB at b
  rw [z0_facts.2.2] at b
  simp at b
  exact ⟨a, b.2⟩
theorem abv_iff (t : Nat) (h1 : fin t = true) (h2 : 0 < rk t) : abv t = true := by
  unfold abv ltB
  rw [h1, z0_facts.2.1, z0_facts.2.2, nn_fin t h1, decide_eq_true h2]; rfl
theorem yld_no1 (f t : Nat) (h : abv f = false) : (fin f && ltB 0 f && okT t && ltB 0 t) = false := by
  unfold abv at h; rw [h]; rfl
theorem yld_no2 (f t : Nat) (h : abv t = false) : (fin f && ltB 0 f && okT t && ltB 0 t) = false := by
  unfold abv at h
  cases h1 : fin t
  · rw [okT_no1 t h1]; simp
  · rw [h1, Bool.true_and] at h; rw [h]; simp
theorem yld_no3 (f t : Nat) (h : rk longW < rk t) : (fin f && ltB 0 f && okT t && ltB 0 t) = false := by
  rw [okT_no3 t h]; simp
theorem yld_ok (f t : Nat) (h1 : abv f = true) (h2 : abv t = true) (h3 : ¬ rk longW < rk t) : okT t = true ∧ (fin f && ltB 0 f && okT t && ltB 0 t) = true := by
  obtain ⟨a, b⟩ := okT_abv t h2
  have c : okT t = true := (okT_iff t).2 ⟨a, by omega, by omega⟩
  unfold abv at h1 h2
  rw [Bool.and_eq_true] at h2
  exact ⟨c, by rw [h1, c, h2.2]; rfl⟩

set_option maxHeartbeats 3200000 in
set_option maxRecDepth 100000 in
theorem yield_any (k : Int) (f t : Nat) (hf : F64 f) (ht : F64 t) (w : World) :
    Calls Tryz.prog 20 #[.int .i64 k, .float .f64 f, .float .f64 t] w fun e w' => ∃ x, e = .returned (.tuple #[.float .f64 x, .int .i64 (yldA k f t).2]) ∧ F64 x ∧ cn x = (yldA k f t).1 ∧ Below w.heap.size w w' := by
  have HO := Hd.mk (rof_any k)
  have HR0 : Hd (∀ w : World, Calls Tryz.prog 11 #[.float .f64 f] w fun e w' => e = .returned (.bool (abv f)) ∧ w = w') := ⟨tabove_any f hf⟩
  have HT0 : Hd (∀ w : World, Calls Tryz.prog 11 #[.float .f64 t] w fun e w' => e = .returned (.bool (abv t)) ∧ w = w') := ⟨tabove_any t ht⟩
  have HR := HR0
  have HT := HT0
  clear HR0 HT0
  have zf : F64 0 := ⟨by decide⟩
  have z1 : cn 0 = 0 := by decide +kernel
  cases ho : okK k
  · have ha : yldA k f t = (0, 90) := by unfold yldA; rw [if_pos ho]
    rw [ha]
    clear ha
    go_enter Tryz.func20, Tryz.ntmps20
    go_wp2_with fail
    refine (HO.out _).mono ?_; rintro en w1 (⟨h, _⟩ | ⟨_, rfl, rfl⟩)
    · rw [ho] at h; cases h
    clear ho
    go_wp2_with fail
    go_ret2
    exact ⟨0, rfl, zf, z1, Below.refl _ _⟩
  have h0 : yldA k f t = if (fin f && ltB 0 f && okT t && ltB 0 t) = false then (0, 91) else if fin (rtY k f t) = false then (0, 91) else (rtY k f t, 0) := by
    unfold yldA; rw [if_neg (by rw [ho]; decide)]
  rw [h0]
  clear h0
  cases hfr : abv f
  · rw [hfr] at HR
    rw [yld_no1 f t hfr, if_pos rfl]
    clear hfr
    go_enter Tryz.func20, Tryz.ntmps20
    go_wp2_with fail
    refine (HO.out _).mono ?_; rintro en w1 (⟨_, p, rfl, hw, hb⟩ | ⟨h, _⟩)
    rotate_left
    · rw [ho] at h; cases h
    clear ho
    have HB := Hd.mk hb
    clear hb hw
    go_wp2_with (first | (refine (HR.out _).mono ?_; rintro e w' ⟨rfl, rfl⟩) | (refine (HT.out _).mono ?_; rintro e w' ⟨rfl, rfl⟩))
    go_ret2
    exact ⟨0, rfl, zf, z1, HB.out⟩
  rw [hfr] at HR
  have F0 := Hd.mk hfr
  clear hfr
  cases hft : abv t
  · rw [hft] at HT
    rw [yld_no2 f t hft, if_pos rfl]
    clear hft
    go_enter Tryz.func20, Tryz.ntmps20
    go_wp2_with fail
    refine (HO.out _).mono ?_; rintro en w1 (⟨_, p, rfl, hw, hb⟩ | ⟨h, _⟩)
    rotate_left
    · rw [ho] at h; cases h
    clear ho
    have HB := Hd.mk hb
    clear hb hw
    go_wp2_with (first | (refine (HR.out _).mono ?_; rintro e w' ⟨rfl, rfl⟩) | (refine (HT.out _).mono ?_; rintro e w' ⟨rfl, rfl⟩))
    go_ret2
    exact ⟨0, rfl, zf, z1, HB.out⟩
  have c2 := fgt t longW ht long_facts.1
  rw [nn_fin t (okT_abv t hft).1, long_facts.2.1] at c2
  rw [Bool.not_false, Bool.true_and, Bool.true_and] at c2
  rw [hft] at HT
  have F1 := Hd.mk hft
  clear hft
  by_cases h2 : rk longW < rk t
  · rw [yld_no3 f t h2, if_pos rfl]
    rw [decide_eq_true h2] at c2
    clear h2
    go_enter Tryz.func20, Tryz.ntmps20
    go_wp2_with fail
    refine (HO.out _).mono ?_; rintro en w1 (⟨_, p, rfl, hw, hb⟩ | ⟨h, _⟩)
    rotate_left
    · rw [ho] at h; cases h
    clear ho
    have HB := Hd.mk hb
    clear hb hw
    go_wp2_with (first | (refine (HR.out _).mono ?_; rintro e w' ⟨rfl, rfl⟩) | (refine (HT.out _).mono ?_; rintro e w' ⟨rfl, rfl⟩))
    go_ret2
    exact ⟨0, rfl, zf, z1, HB.out⟩
  rw [decide_eq_false h2] at c2
  obtain ⟨hok, hgo⟩ := yld_ok f t F0.out F1.out h2
  rw [hgo, if_neg (by decide)]
  clear h2 hgo
  have HOK := Hd.mk hok
  clear hok
  have HN := Hd.mk tnumber_any
  obtain ⟨Z, hz⟩ : ∃ Z, rtY k f t = Z := ⟨_, rfl⟩
  rw [hz]
  obtain ⟨A, hA⟩ : ∃ A, (if fin Z = false then ((0 : Nat), (91 : Int)) else (Z, 0)) = A := ⟨_, rfl⟩
  rw [hA]
  have HA := Hd.mk hA
  clear hA
  have HZ := Hd.mk hz
  clear hz
  go_enter Tryz.func20, Tryz.ntmps20
  go_wp2_with fail
  refine (HO.out _).mono ?_; rintro en w1 (⟨_, p, rfl, hw, hb⟩ | ⟨h, _⟩)
  rotate_left
  · rw [ho] at h; cases h
  clear ho
  have HB := Hd.mk hb
  obtain ⟨f1, cc1, f2, cc2, hc1, hc2, hf1, hf2⟩ := hw
  have heg := hf2.enter
  have hC := fun w (hb : Below w1.heap.size w1 w) => hf2.calls f t w hb hf ht (okT_abv f F0.out).1 HOK.out
  rw [HZ.out] at hC
  have HC := Hd.mk hC
  clear hC
  clear hb hf1 hf2
  go_wp2_with (first | (refine (HR.out _).mono ?_; rintro e w' ⟨rfl, rfl⟩) | (refine (HT.out _).mono ?_; rintro e w' ⟨rfl, rfl⟩))
  refine (HC.out _ (Below.refl _ _)).mono ?_; rintro en w2 ⟨x, rfl, hx, hcx, hb2⟩
  have HB2 := Hd.mk (HB.out.trans (hb2.mono HB.out.size))
  clear hb2 HB HC heg hc1 hc2
  have HX := Hd.mk hx
  have HCX := Hd.mk hcx
  have hfx : fin x = fin Z := by rw [← hcx, fin_cn]
  clear hcx
  have HNx := Hd.mk (HN.out x hx)
  clear hx HN
  cases hfz : fin Z
  · rw [hfx, hfz] at HNx
    obtain rfl : (0, 91) = A := by rw [← HA.out, if_pos hfz]
    clear hfx hfz
    go_wp2_with (refine (HNx.out _).mono ?_; rintro e w' ⟨rfl, rfl⟩)
    go_ret2
    exact ⟨0, rfl, zf, z1, HB2.out⟩
  · rw [hfx, hfz] at HNx
    obtain rfl : (Z, 0) = A := by rw [← HA.out, if_neg (by rw [hfz]; decide)]
    clear hfx hfz
    go_wp2_with (refine (HNx.out _).mono ?_; rintro e w' ⟨rfl, rfl⟩)
    go_ret2
    exact ⟨x, rfl, HX.out, HCX.out, HB2.out⟩

end Go.Proofs.YtpegicgahbambaaGreat

/- The walk of rate.Forward. -/
namespace Go.Proofs.YtpegicgahbambaaGreat
open Go.RowKit
set_option linter.unusedSimpArgs false
set_option linter.unusedVariables false

def fwdQ (n f t : Nat) : Nat := fdiv (fsub (fdiv n f) oneW) t
theorem fwd_eq (n f t : Nat) : fwdA n f t = if (abv n && abv f && abv t) = false then (0, 91) else if fin (fwdQ n f t) = false then (0, 91) else (fwdQ n f t, 0) := by
  unfold fwdA fwdQ abv
  simp only [Bool.and_assoc]

set_option maxHeartbeats 3200000 in
set_option maxRecDepth 100000 in
theorem forward_any (n f t : Nat) (hn : F64 n) (hf : F64 f) (ht : F64 t) (w : World) :
    Calls Tryz.prog 4 #[.float .f64 n, .float .f64 f, .float .f64 t] w fun e w' => ∃ x, e = .returned (.tuple #[.float .f64 x, .int .i64 (fwdA n f t).2]) ∧ F64 x ∧ cn x = (fwdA n f t).1 ∧ Below w.heap.size w w' := by
  have HN : Hd (∀ w : World, Calls Tryz.prog 11 #[.float .f64 n] w fun e w' => e = .returned (.bool (abv n)) ∧ w = w') := ⟨tabove_any n hn⟩
  have HF : Hd (∀ w : World, Calls Tryz.prog 11 #[.float .f64 f] w fun e w' => e = .returned (.bool (abv f)) ∧ w = w') := ⟨tabove_any f hf⟩
  have HT : Hd (∀ w : World, Calls Tryz.prog 11 #[.float .f64 t] w fun e w' => e = .returned (.bool (abv t)) ∧ w = w') := ⟨tabove_any t ht⟩
  have zf : F64 0 := ⟨by decide⟩
  have z1 : cn 0 = 0 := by decide +kernel
  rw [fwd_eq]
  have HA1 := Hd.mk (okT_abv n)
  have HA2 := Hd.mk (okT_abv f)
  have HA3 := Hd.mk (okT_abv t)
  cases h1 : abv n
  · rw [h1] at HN
    rw [Bool.false_and, Bool.false_and, if_pos rfl]
    clear h1
    go_enter Tryz.func4, Tryz.ntmps4
    go_wp2_with fail
    refine (HN.out _).mono ?_; rintro e w' ⟨rfl, rfl⟩
    go_wp2_with fail
    go_ret2
    exact ⟨0, rfl, zf, z1, Below.refl _ _⟩
  cases h2 : abv f
  · rw [h1] at HN
    rw [h2] at HF
    rw [Bool.and_false, Bool.false_and, if_pos rfl]
    clear h1 h2
    go_enter Tryz.func4, Tryz.ntmps4
    go_wp2_with fail
    refine (HN.out _).mono ?_; rintro e w' ⟨rfl, rfl⟩
    go_wp2_with fail
    refine (HF.out _).mono ?_; rintro e w' ⟨rfl, rfl⟩
    go_wp2_with fail
    go_ret2
    exact ⟨0, rfl, zf, z1, Below.refl _ _⟩
  cases h3 : abv t
  · rw [h1] at HN
    rw [h2] at HF
    rw [h3] at HT
    rw [Bool.and_false, if_pos rfl]
    clear h1 h2 h3
    go_enter Tryz.func4, Tryz.ntmps4
    go_wp2_with fail
    refine (HN.out _).mono ?_; rintro e w' ⟨rfl, rfl⟩
    go_wp2_with fail
    refine (HF.out _).mono ?_; rintro e w' ⟨rfl, rfl⟩
    go_wp2_with fail
    refine (HT.out _).mono ?_; rintro e w' ⟨rfl, rfl⟩
    go_wp2_with fail
    go_ret2
    exact ⟨0, rfl, zf, z1, Below.refl _ _⟩
  rw [Bool.and_self, Bool.and_self, if_neg (by decide)]
  have HQ := Hd.mk fun w1 w2 w3 => show cn (fres .quo (fres .sub (fres .quo n f w1) oneW w2) t w3) = fwdQ n f t from by
    rw [cn_fdiv _ _ _ (F64_fres _ _ _ _) ht, cn_fsub _ _ _ (F64_fres _ _ _ _) one_w.w, cn_fdiv _ _ _ hn hf, cn_cns.1, cn_of n (nn_fin n (HA1.out h1).1), cn_of f (nn_fin f (HA2.out h2).1), cn_of t (nn_fin t (HA3.out h3).1)]; rfl
  rw [h1] at HN
  rw [h2] at HF
  rw [h3] at HT
  clear h1 h2 h3
  generalize fwdQ n f t = Z at *
  obtain ⟨A, hA⟩ : ∃ A, (if fin Z = false then ((0 : Nat), (91 : Int)) else (Z, 0)) = A := ⟨_, rfl⟩
  rw [hA]
  have HA := Hd.mk hA
  clear hA HA1 HA2 HA3
  have HNu := Hd.mk tnumber_any
  go_enter Tryz.func4, Tryz.ntmps4
  go_wp2_with fail
  refine (HN.out _).mono ?_; rintro e w' ⟨rfl, rfl⟩
  go_wp2_with fail
  refine (HF.out _).mono ?_; rintro e w' ⟨rfl, rfl⟩
  go_wp2_with fail
  refine (HT.out _).mono ?_; rintro e w' ⟨rfl, rfl⟩
  go_wp2_with fail
  cases hfz : fin Z
  · have HNx := Hd.mk fun w1 w2 w3 => by
      have h := tnumber_any (fres .quo (fres .sub (fres .quo n f w1) oneW w2) t w3) (F64_fres _ _ _ _)
      rw [← fin_cn (fres .quo (fres .sub (fres .quo n f w1) oneW w2) t w3), HQ.out, hfz] at h
      exact h
    obtain rfl : (0, 91) = A := by rw [← HA.out, if_pos hfz]
    clear hfz HNu
    refine (HNx.out _ _ _ _).mono ?_; rintro e w' ⟨rfl, rfl⟩
    go_wp2_with fail
    go_ret2
    exact ⟨0, rfl, zf, z1, below_drewN (Below.refl _ _) _⟩
  · have HNx := Hd.mk fun w1 w2 w3 => by
      have h := tnumber_any (fres .quo (fres .sub (fres .quo n f w1) oneW w2) t w3) (F64_fres _ _ _ _)
      rw [← fin_cn (fres .quo (fres .sub (fres .quo n f w1) oneW w2) t w3), HQ.out, hfz] at h
      exact h
    obtain rfl : (Z, 0) = A := by rw [← HA.out, if_neg (by rw [hfz]; decide)]
    clear hfz HNu
    refine (HNx.out _ _ _ _).mono ?_; rintro e w' ⟨rfl, rfl⟩
    go_wp2_with fail
    go_ret2
    exact ⟨_, rfl, F64_fres _ _ _ _, HQ.out _ _ _, below_drewN (Below.refl _ _) _⟩

end Go.Proofs.YtpegicgahbambaaGreat

/- The walk of tenorlaw9.awake. -/
namespace Go.Proofs.YtpegicgahbambaaGreat
open Go.RowKit
set_option linter.unusedSimpArgs false
set_option linter.unusedVariables false

theorem a9_1 : facA 1 4598175219545276416 4607182418800017408 = (4605380978949069210, 0) ∧ nn 4605380978949069210 = false := by decide +kernel
theorem a9_2 : yldA 1 4605380978949069210 4607182418800017408 = (4598175219545276416, 0) ∧ nn 4598175219545276416 = false := by decide +kernel
theorem a9_3 : fwdA 4607182418800017408 4602678819172646912 4611686018427387904 = (4602678819172646912, 0) ∧ nn 4602678819172646912 = false := by decide +kernel

set_option maxHeartbeats 1600000 in
theorem awake9_any (w : World) :
    Calls Tryz.prog 10 #[] w fun e w' => e = .returned (.bool true) ∧ Below w.heap.size w w' := by
  have o1 : (FloatKind.f64.format.order 4605380978949069210 4605380978949069210 == some .eq) = true := by decide +kernel
  have o2 : (FloatKind.f64.format.order 4598175219545276416 4598175219545276416 == some .eq) = true := by decide +kernel
  have o3 : (FloatKind.f64.format.order 4602678819172646912 4602678819172646912 == some .eq) = true := by decide +kernel
  go_enter Tryz.func10, Tryz.ntmps10
  go_wp2_with fail
  refine (factor_any 1 4598175219545276416 4607182418800017408 ⟨by decide⟩ ⟨by decide⟩ _).mono ?_; rintro en w1 ⟨r, rfl, hr, hc, hb⟩
  rw [a9_1.1] at hc
  rw [a9_1.1]
  obtain rfl := of_cn hc a9_1.2
  have B1 := Hd.mk hb
  clear hr hc hb
  go_wp2_with fail
  refine (yield_any 1 4605380978949069210 4607182418800017408 ⟨by decide⟩ ⟨by decide⟩ _).mono ?_; rintro en w2 ⟨r, rfl, hr, hc, hb⟩
  rw [a9_2.1] at hc
  rw [a9_2.1]
  obtain rfl := of_cn hc a9_2.2
  have B2 := Hd.mk (B1.out.trans (hb.mono B1.out.size))
  clear hr hc hb
  go_wp2_with fail
  refine (forward_any 4607182418800017408 4602678819172646912 4611686018427387904 ⟨by decide⟩ ⟨by decide⟩ ⟨by decide⟩ _).mono ?_; rintro en w3 ⟨r, rfl, hr, hc, hb⟩
  rw [a9_3.1] at hc
  rw [a9_3.1]
  obtain rfl := of_cn hc a9_3.2
  have B3 := Hd.mk (B2.out.trans (hb.mono B2.out.size))
  clear hr hc hb
  go_wp2_with fail
  go_ret
  exact ⟨rfl, B3.out⟩

end Go.Proofs.YtpegicgahbambaaGreat

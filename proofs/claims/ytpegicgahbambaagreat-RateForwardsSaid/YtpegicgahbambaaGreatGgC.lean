/- rate.Convert and the reference's (tenorref9). -/
import Derived.Test.YtpegicgahbambaaGreatGsC
import Derived.Test.YtpegicgahbambaaGreatM8
namespace Go.Proofs.YtpegicgahbambaaGreat
open Go.RowKit
set_option linter.unusedSimpArgs false
set_option linter.unusedVariables false

def cvA (a b : Int) (r t : Nat) : Nat × Int := if (okK a && okK b) = false then (0, 90) else if (facA a r t).2 = 0 then yldA b (facA a r t).1 t else (0, (facA a r t).2)

theorem of_some (k : Int) (h : okK k = true) (w : World) : Calls Tryz.prog 18 #[.int .i64 k] w (fun e w' => ∃ p, e = .returned (.pointer (some ⟨p, 0, none⟩)) ∧ Below w.heap.size w w') :=
  (rof_any k w).mono fun e w' hh => by
    rcases hh with ⟨_, p, h1, _, h2⟩ | ⟨h0, _⟩
    · exact ⟨p, h1, h2⟩
    · rw [h] at h0; cases h0
theorem of_none (k : Int) (h : okK k = false) (w : World) : Calls Tryz.prog 18 #[.int .i64 k] w (fun e w' => e = .returned (.pointer none) ∧ w = w') :=
  (rof_any k w).mono fun e w' hh => by
    rcases hh with ⟨h0, _⟩ | ⟨_, h1, h2⟩
    · rw [h] at h0; cases h0
    · exact ⟨h1, h2⟩

theorem F64_facA9 (k : Int) (r t : Nat) : F64 (facA k r t).1 := by
  have z : F64 0 := z0_facts.1
  have h : F64 (rtF k r t) := by
    unfold rtF
    split
    · exact F64_fdiv _ _
    · split
      · exact F64_fexp _
      · exact F64_fexp _
  unfold facA
  repeat' split
  all_goals first | exact z | exact h
theorem facA9_fin (k : Int) (r t : Nat) (h : (facA k r t).2 = 0) : fin (facA k r t).1 = true := by
  unfold facA at *
  split at h
  · cases h
  rename_i h1
  rw [if_neg h1]
  split at h
  · cases h
  rename_i h2
  rw [if_neg h2]
  split at h
  · cases h
  rename_i h3
  rw [if_neg h3]
  split at h
  · cases h
  rename_i h4
  rw [if_neg h4]
  simp at h4
  exact h4.1

set_option maxHeartbeats 3200000 in
theorem convert_any (a b : Int) (r t : Nat) (hr : F64 r) (ht : F64 t) (w : World) :
    Calls Tryz.prog 7 #[.int .i64 a, .int .i64 b, .float .f64 r, .float .f64 t] w fun e w' => ∃ x, e = .returned (.tuple #[.float .f64 x, .int .i64 (cvA a b r t).2]) ∧ F64 x ∧ cn x = (cvA a b r t).1 ∧ Below w.heap.size w w' := by
  have zf : F64 0 := ⟨by decide⟩
  have z1 : cn 0 = 0 := by decide +kernel
  unfold cvA
  cases ha : okK a
  · have HA := Hd.mk (of_none a ha)
    rw [Bool.false_and, if_pos rfl]
    clear ha
    go_enter Tryz.func7, Tryz.ntmps7
    go_wp2_with fail
    refine (HA.out _).mono ?_; rintro e w' ⟨rfl, rfl⟩
    go_wp2_with fail
    go_ret2
    exact ⟨0, rfl, zf, z1, Below.refl _ _⟩
  have HA := Hd.mk (of_some a ha)
  cases hb : okK b
  · have HB := Hd.mk (of_none b hb)
    rw [Bool.and_false, if_pos rfl]
    clear ha hb
    go_enter Tryz.func7, Tryz.ntmps7
    go_wp2_with fail
    refine (HA.out _).mono ?_; rintro e w1 ⟨p, rfl, hb⟩
    have B1 := Hd.mk hb
    clear hb
    go_wp2_with fail
    refine (HB.out _).mono ?_; rintro e w' ⟨rfl, rfl⟩
    go_wp2_with fail
    go_ret2
    exact ⟨0, rfl, zf, z1, B1.out⟩
  have HB := Hd.mk (of_some b hb)
  rw [Bool.and_self, if_neg (by decide)]
  have HF := Hd.mk (factor_any a r t hr ht)
  have HY := Hd.mk (fun f hf => yield_any b f t hf ht)
  have HX := Hd.mk (facA9_fin a r t)
  have HX2 := Hd.mk (F64_facA9 a r t)
  clear ha hb
  generalize facA a r t = A at *
  obtain ⟨A1, A2⟩ := A
  by_cases h0 : A2 = 0
  · subst h0
    rw [if_pos rfl]
    have fA : Hd (fin A1 = true) := ⟨HX.out rfl⟩
    clear HX
    have HY2 := Hd.mk (HY.out A1 HX2.out)
    generalize yldA b A1 t = Y at *
    obtain ⟨Y1, Y2⟩ := Y
    clear HY
    go_enter Tryz.func7, Tryz.ntmps7
    go_wp2_with fail
    refine (HA.out _).mono ?_; rintro e w1 ⟨p, rfl, hb⟩
    have B1 := Hd.mk hb
    clear hb
    go_wp2_with fail
    refine (HB.out _).mono ?_; rintro e w2 ⟨p2, rfl, hb⟩
    have B2 := Hd.mk (B1.out.trans (hb.mono B1.out.size))
    clear hb
    go_wp2_with fail
    refine (HF.out _).mono ?_; rintro e w3 ⟨x, rfl, hx, hc, hb⟩
    have B3 := Hd.mk (B2.out.trans (hb.mono B2.out.size))
    clear hb
    obtain rfl := of_cn hc (nn_fin _ fA.out)
    clear hx hc
    go_wp2_with fail
    refine (HY2.out _).mono ?_; rintro e w4 ⟨y, rfl, hy, hc, hb⟩
    have B4 := Hd.mk (B3.out.trans (hb.mono B3.out.size))
    have HC := Hd.mk hc
    clear hb hc
    go_wp2_with fail
    go_ret2
    exact ⟨y, rfl, hy, HC.out, B4.out⟩
  · rw [if_neg h0]
    have h0' : (A2 != 0) = true := by simpa using h0
    clear HX HY h0
    go_enter Tryz.func7, Tryz.ntmps7
    go_wp2_with fail
    refine (HA.out _).mono ?_; rintro e w1 ⟨p, rfl, hb⟩
    have B1 := Hd.mk hb
    clear hb
    go_wp2_with fail
    refine (HB.out _).mono ?_; rintro e w2 ⟨p2, rfl, hb⟩
    have B2 := Hd.mk (B1.out.trans (hb.mono B1.out.size))
    clear hb
    go_wp2_with fail
    refine (HF.out _).mono ?_; rintro e w3 ⟨x, rfl, hx, hc, hb⟩
    have B3 := Hd.mk (B2.out.trans (hb.mono B2.out.size))
    clear hb hx hc
    go_wp2_with fail
    go_ret2
    exact ⟨0, rfl, zf, z1, B3.out⟩

set_option maxHeartbeats 3200000 in
theorem rConvert_any (a b : Int) (r t : Nat) (hr : F64 r) (ht : F64 t) (w : World) :
    Calls Tryz.prog 8 #[.int .i64 a, .int .i64 b, .int .u64 r, .int .u64 t] w (AnsRet (cvA a b r t) w) := by
  have HA := Hd.mk (kind9_any a)
  have HB := Hd.mk (kind9_any b)
  unfold cvA
  cases ha : okK a
  · rw [ha] at HA
    rw [Bool.false_and, if_pos rfl]
    clear ha
    go_enter Tryz.func8, Tryz.ntmps8
    go_wp2_with fail
    refine (HA.out _).mono ?_; rintro e w' ⟨rfl, rfl⟩
    go_wp2_with fail
    go_ret2
    exact ⟨rfl, Below.refl _ _⟩
  rw [ha] at HA
  cases hb : okK b
  · rw [hb] at HB
    rw [Bool.and_false, if_pos rfl]
    clear ha hb
    go_enter Tryz.func8, Tryz.ntmps8
    go_wp2_with fail
    refine (HA.out _).mono ?_; rintro e w' ⟨rfl, rfl⟩
    go_wp2_with fail
    refine (HB.out _).mono ?_; rintro e w' ⟨rfl, rfl⟩
    go_wp2_with fail
    go_ret2
    exact ⟨rfl, Below.refl _ _⟩
  rw [hb] at HB
  rw [Bool.and_self, if_neg (by decide)]
  have HF := Hd.mk (rFactor_any a r t hr ht)
  have HY := Hd.mk (fun f hf => rYield_any b f t hf ht)
  have HX2 := Hd.mk (F64_facA9 a r t)
  clear ha hb
  generalize facA a r t = A at *
  obtain ⟨A1, A2⟩ := A
  by_cases h0 : A2 = 0
  · subst h0
    rw [if_pos rfl]
    have HY2 := Hd.mk (HY.out A1 HX2.out)
    generalize yldA b A1 t = Y at *
    obtain ⟨Y1, Y2⟩ := Y
    clear HY
    go_enter Tryz.func8, Tryz.ntmps8
    go_wp2_with fail
    refine (HA.out _).mono ?_; rintro e w' ⟨rfl, rfl⟩
    go_wp2_with fail
    refine (HB.out _).mono ?_; rintro e w' ⟨rfl, rfl⟩
    go_wp2_with fail
    refine (HF.out _).mono ?_; rintro e w3 ⟨rfl, hb⟩
    have B3 := Hd.mk hb
    clear hb
    go_wp2_with fail
    refine (HY2.out _).mono ?_; rintro e w4 ⟨rfl, hb⟩
    have B4 := Hd.mk (B3.out.trans (hb.mono B3.out.size))
    clear hb
    go_wp2_with fail
    go_ret2
    exact ⟨rfl, B4.out⟩
  · rw [if_neg h0]
    have h0' : (A2 != 0) = true := by simpa using h0
    clear HY h0
    go_enter Tryz.func8, Tryz.ntmps8
    go_wp2_with fail
    refine (HA.out _).mono ?_; rintro e w' ⟨rfl, rfl⟩
    go_wp2_with fail
    refine (HB.out _).mono ?_; rintro e w' ⟨rfl, rfl⟩
    go_wp2_with fail
    refine (HF.out _).mono ?_; rintro e w3 ⟨rfl, hb⟩
    have B3 := Hd.mk hb
    clear hb
    go_wp2_with fail
    go_ret2
    exact ⟨rfl, B3.out⟩

end Go.Proofs.YtpegicgahbambaaGreat

/- The reference's Yield (tenorref9). -/
import Derived.Test.YtpegicgahbambaaGreatM8
namespace Go.Proofs.YtpegicgahbambaaGreat
open Go.RowKit
set_option linter.unusedSimpArgs false
set_option linter.unusedVariables false

def yldB (k : Int) (f t : Nat) : Nat × Int := if fin (rtY k f t) = false then (0, 91) else (rtY k f t, 0)
def endY (Z : Nat) : Nat × Int := if fin Z = false then (0, 91) else (Z, 0)
def yldIn (f t : Nat) : Bool := fin f && ltB 0 f && okT t && ltB 0 t
theorem yldA_eq (k : Int) (f t : Nat) (hk : okK k = true) (h : yldIn f t = true) : yldA k f t = endY (rtY k f t) := by
  unfold yldA endY
  unfold yldIn at h
  rw [if_neg (by rw [hk]; decide), if_neg (by rw [h]; decide)]
theorem ltB_back (t : Nat) (h : ltB 0 t = true) : ltB t 0 = false := by
  unfold ltB at *
  simp at h
  simp
  intros
  have := h.2
  omega
theorem okT_abv2 (t : Nat) (h : fin t = true) (h2 : ltB 0 t = true) : okT t = !ltB longW t := by
  rw [okT_lt t h, ltB_back t h2]; rfl
theorem yldIn_parts (f t : Nat) (h : yldIn f t = true) : fin f = true ∧ ltB 0 f = true ∧ fin t = true ∧ ltB 0 t = true ∧ ltB longW t = false := by
  unfold yldIn at h
  rw [Bool.and_eq_true, Bool.and_eq_true, Bool.and_eq_true] at h
  obtain ⟨⟨⟨a, b⟩, c⟩, d⟩ := h
  exact ⟨a, b, (okT_iff t).1 c |>.1, d, (okT_parts t c).2.2⟩

set_option maxHeartbeats 3200000 in
set_option maxRecDepth 100000 in
theorem rYield_arg (k : Int) (f t : Nat) (hf : F64 f) (ht : F64 t) (w : World) (hno : (okK k && yldIn f t) = false) :
    Calls Tryz.prog 23 #[.int .i64 k, .int .u64 f, .int .u64 t] w (AnsRet (yldA k f t) w) := by
  have HK := Hd.mk (kind9_any k)
  have HF := Hd.mk (rNumber_any f hf)
  have HT := Hd.mk (rNumber_any t ht)
  have HA1 := Hd.mk (above9_any f hf)
  have HA2 := Hd.mk (above9_any t ht)
  have HO := Hd.mk (long9_any t ht)
  cases ho : okK k
  · obtain ⟨A, hA⟩ : ∃ A, yldA k f t = A := ⟨_, rfl⟩
    obtain rfl : (0, 90) = A := by rw [← hA]; unfold yldA; rw [if_pos ho]
    rw [hA]
    rw [ho] at HK
    clear hA ho hno
    go_enter Tryz.func23, Tryz.ntmps23
    go_wp2_with fail
    refine (HK.out _).mono ?_; rintro e w' ⟨rfl, rfl⟩
    go_wp2_with fail
    go_ret2
    exact ⟨rfl, Below.refl _ _⟩
  rw [ho] at HK
  rw [ho, Bool.true_and] at hno
  obtain ⟨A, hA⟩ : ∃ A, yldA k f t = A := ⟨_, rfl⟩
  obtain rfl : (0, 91) = A := by
    rw [← hA]; unfold yldA
    unfold yldIn at hno
    rw [if_neg (by rw [ho]; decide), if_pos hno]
  rw [hA]
  unfold yldIn at hno
  clear hA ho
  cases h1 : fin f
  · rw [h1] at HF
    clear h1 hno
    go_enter Tryz.func23, Tryz.ntmps23
    go_wp2_with fail
    refine (HK.out _).mono ?_; rintro e w' ⟨rfl, rfl⟩
    go_wp2_with fail
    refine (HF.out _).mono ?_; rintro e w' ⟨rfl, rfl⟩
    go_wp2_with fail
    go_ret2
    exact ⟨rfl, Below.refl _ _⟩
  rw [h1] at HF
  rw [h1, Bool.true_and] at hno
  clear h1
  cases h2 : ltB 0 f
  · rw [h2] at HA1
    clear h2 hno
    go_enter Tryz.func23, Tryz.ntmps23
    go_wp2_with fail
    refine (HK.out _).mono ?_; rintro e w' ⟨rfl, rfl⟩
    go_wp2_with fail
    refine (HF.out _).mono ?_; rintro e w' ⟨rfl, rfl⟩
    go_wp2_with fail
    refine (HA1.out _).mono ?_; rintro e w' ⟨rfl, rfl⟩
    go_wp2_with fail
    go_ret2
    exact ⟨rfl, Below.refl _ _⟩
  rw [h2] at HA1
  rw [h2, Bool.true_and] at hno
  clear h2
  cases h3 : fin t
  · rw [h3] at HT
    clear h3 hno
    go_enter Tryz.func23, Tryz.ntmps23
    go_wp2_with fail
    refine (HK.out _).mono ?_; rintro e w' ⟨rfl, rfl⟩
    go_wp2_with fail
    refine (HF.out _).mono ?_; rintro e w' ⟨rfl, rfl⟩
    go_wp2_with fail
    refine (HA1.out _).mono ?_; rintro e w' ⟨rfl, rfl⟩
    go_wp2_with fail
    refine (HT.out _).mono ?_; rintro e w' ⟨rfl, rfl⟩
    go_wp2_with fail
    go_ret2
    exact ⟨rfl, Below.refl _ _⟩
  rw [h3] at HT
  cases h4 : ltB 0 t
  · rw [h4] at HA2
    clear h3 h4 hno
    go_enter Tryz.func23, Tryz.ntmps23
    go_wp2_with fail
    refine (HK.out _).mono ?_; rintro e w' ⟨rfl, rfl⟩
    go_wp2_with fail
    refine (HF.out _).mono ?_; rintro e w' ⟨rfl, rfl⟩
    go_wp2_with fail
    refine (HA1.out _).mono ?_; rintro e w' ⟨rfl, rfl⟩
    go_wp2_with fail
    refine (HT.out _).mono ?_; rintro e w' ⟨rfl, rfl⟩
    go_wp2_with fail
    refine (HA2.out _).mono ?_; rintro e w' ⟨rfl, rfl⟩
    go_wp2_with fail
    go_ret2
    exact ⟨rfl, Below.refl _ _⟩
  rw [h4, okT_abv2 t h3 h4, Bool.and_true] at hno
  rw [h4] at HA2
  have h5 : ltB longW t = true := by simpa using hno
  rw [h5] at HO
  clear h3 h4 h5 hno
  go_enter Tryz.func23, Tryz.ntmps23
  go_wp2_with fail
  refine (HK.out _).mono ?_; rintro e w' ⟨rfl, rfl⟩
  go_wp2_with fail
  refine (HF.out _).mono ?_; rintro e w' ⟨rfl, rfl⟩
  go_wp2_with fail
  refine (HA1.out _).mono ?_; rintro e w' ⟨rfl, rfl⟩
  go_wp2_with fail
  refine (HT.out _).mono ?_; rintro e w' ⟨rfl, rfl⟩
  go_wp2_with fail
  refine (HA2.out _).mono ?_; rintro e w' ⟨rfl, rfl⟩
  go_wp2_with fail
  refine (HO.out _).mono ?_; rintro en w1 ⟨rfl, hb⟩
  have B1 := Hd.mk hb
  clear hb
  go_wp2_with fail
  go_ret2
  exact ⟨rfl, B1.out⟩

end Go.Proofs.YtpegicgahbambaaGreat

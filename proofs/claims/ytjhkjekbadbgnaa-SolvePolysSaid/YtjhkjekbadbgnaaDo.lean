/- The walk of the reference's Of. -/
import Derived.Test.YtjhkjekbadbgnaaDn
import Derived.Test.YtjhkjekbadbgnaaRk
import Derived.Laws.BitsAllLaws
namespace Go.Proofs.Ytjhkjekbadbgnaa
open Go.RowKit
set_option linter.unusedSimpArgs false
set_option linter.unusedVariables false

/-- The whole number and the exponent that a float's bits tell. -/
def mnt (u : Nat) : Nat := if mg u < 4503599627370496 then mg u else 4503599627370496 + mg u % 4503599627370496
def exq (u : Nat) : Int := if mg u < 4503599627370496 then -1074 else -1074 + (mg u / 4503599627370496 - 1 : Nat)

theorem and_mant (u : Nat) (hu : F64 u) : bits .and .u64 (u : Int) 4503599627370495 = ((mg u % 4503599627370496 : Nat) : Int) := by
  have := u64_and_nat u 4503599627370495 hu.out (by decide)
  rw [show ((4503599627370495 : Nat) : Int) = 4503599627370495 from rfl] at this
  rw [this]
  show ((u &&& (2 ^ 52 - 1) : Nat) : Int) = _
  rw [Nat.and_two_pow_sub_one_eq_mod]
  unfold mg
  congr 1
  omega
theorem and_exp (u : Nat) (hu : F64 u) : bits .and .u64 ((u : Int) / 4503599627370496) 2047 = ((mg u / 4503599627370496 : Nat) : Int) := by
  have hu := hu.out
  have := u64_and_nat (u / 4503599627370496) 2047 (by omega) (by decide)
  rw [show ((2047 : Nat) : Int) = 2047 from rfl] at this
  rw [show (u : Int) / 4503599627370496 = ((u / 4503599627370496 : Nat) : Int) from rfl, this]
  show ((u / 4503599627370496 &&& (2 ^ 11 - 1) : Nat) : Int) = _
  rw [Nat.and_two_pow_sub_one_eq_mod]
  unfold mg
  congr 1
  omega
theorem ng_dec (u : Nat) (hu : F64 u) : decide ((9223372036854775808 : Int) ≤ u) = ng u := by
  cases h : ng u
  · exact (pos_bits hu h).2
  · exact (neg_bits hu h).2

set_option maxHeartbeats 1600000 in
theorem of_any (u : Nat) (hu : F64 u) (w : World) :
    Calls Try.prog 63 #[.int .u64 u] w (NRet (ng u && !(mnt u == 0)) (mnt u) (if mnt u = 0 then 0 else exq u) w) := by
  have b1 := and_mant u hu
  have b2 := and_exp u hu
  have ds := ng_dec u hu
  have l1 : mg u % 4503599627370496 < 4503599627370496 := Nat.mod_lt _ (by decide)
  have l2 : mg u / 4503599627370496 < 2048 := by have := mg_lt u; omega
  have HM : Hd (mnt u = if mg u / 4503599627370496 = 0 then mg u % 4503599627370496 else 4503599627370496 + mg u % 4503599627370496) := ⟨by unfold mnt; split <;> split <;> omega⟩
  have HE : Hd (exq u = if mg u / 4503599627370496 = 0 then -1074 else ((mg u / 4503599627370496 : Nat) : Int) - 1075) := ⟨by unfold exq; split <;> split <;> omega⟩
  generalize mg u / 4503599627370496 = E at *
  generalize mg u % 4503599627370496 = M at *
  generalize ng u = s at *
  clear hu
  by_cases h0 : E = 0
  · subst h0
    rw [if_pos rfl] at HM HE
    rw [HM.out, HE.out]
    have d1 : decide ((0 : Int) < (0 : Nat)) = false := by decide
    by_cases hm : M = 0
    · subst hm
      rw [if_pos rfl, show (s && !((0 : Nat) == 0)) = false by simp]
      have d2 : (((0 : Nat) : Int) == 0) = true := by decide
      clear HM HE
      go_enter Try.func63, Try.ntmps63
      go_wp2_with fail
      exact bodyPost_ret (v := .agg #[.bool false, .slice none 0 0, .int .i64 0]) (by simp [results, Try.results63, go_sem]) rfl ⟨none, 0, rfl, Dgs.zero _, by (repeat (refine Below.setCell ?_ (by simp) _)); exact (Below.refl _ _).alloc (Nat.le_refl _) _⟩
    · rw [if_neg hm, show (s && !(M == 0)) = s by simp [hm]]
      have d2 : ((M : Int) == 0) = false := by rw [beq_eq_false_iff_ne]; omega
      clear HM HE hm
      go_enter Try.func63, Try.ntmps63
      go_wp2_with fail
      refine (digits_any M (by omega) _).mono ?_; rintro en w' ⟨a2, c2, rfl, hc2, hd2, hb2, hf2⟩
      have hk := cellb hb2 w.heap.size (by simp)
      have hz := hb2.size
      simp at hz
      have HB : Hd (Below w.heap.size w w') := ⟨((Below.refl _ _).alloc (Nat.le_refl _) _).trans (hb2.mono (by simp))⟩
      have HF : Hd (∀ b o v, a2 = some ⟨b, o, v⟩ → w.heap.size < b) := ⟨fun b o v e => by have := hf2 b o v e; simp at this; omega⟩
      have HD := Hd.mk hd2
      clear hb2 hd2 hc2 hf2
      go_wp2_with fail
      refine bodyPost_ret (v := .agg #[.bool s, .slice a2 (nd M) c2, .int .i64 (-1074)]) (by simp [results, Try.results63, go_sem, hk]) rfl ⟨a2, c2, rfl, ?_, ?_⟩
      · repeat (refine Dgs.setOther ?_ HF.out _ _)
        exact HD.out
      · (repeat (refine Below.setCell ?_ (by simp) _)); exact HB.out
  · rw [if_neg h0] at HM HE
    rw [HM.out, HE.out, if_neg (by omega), show (s && !((4503599627370496 + M) == 0)) = s by simp]
    have d1 : decide (0 < E) = true := by simp; omega
    have d2 : (((M : Int) + 4503599627370496) == 0) = false := by rw [beq_eq_false_iff_ne]; omega
    have HG : Hd (∀ w, Calls Try.prog 91 #[.int .u64 ((M : Int) + 4503599627370496)] w (DRet (4503599627370496 + M) w)) := ⟨fun w => by
      have := digits_any (4503599627370496 + M) (by omega) w
      rwa [show ((4503599627370496 + M : Nat) : Int) = (M : Int) + 4503599627370496 by omega] at this⟩
    clear HM HE h0
    generalize 4503599627370496 + M = K at *
    go_enter Try.func63, Try.ntmps63
    go_wp2_with fail
    refine (HG.out _).mono ?_; rintro en w' ⟨a2, c2, rfl, hc2, hd2, hb2, hf2⟩
    have hk := cellb hb2 w.heap.size (by simp)
    have hz := hb2.size
    simp at hz
    have HB : Hd (Below w.heap.size w w') := ⟨((Below.refl _ _).alloc (Nat.le_refl _) _).trans (hb2.mono (by simp))⟩
    have HF : Hd (∀ b o v, a2 = some ⟨b, o, v⟩ → w.heap.size < b) := ⟨fun b o v e => by have := hf2 b o v e; simp at this; omega⟩
    have HD := Hd.mk hd2
    clear hb2 hd2 hc2 hf2
    go_wp2_with fail
    refine bodyPost_ret (v := .agg #[.bool s, .slice a2 (nd K) c2, .int .i64 ((E : Int) - 1075)]) (by simp [results, Try.results63, go_sem, hk]) rfl ⟨a2, c2, rfl, ?_, ?_⟩
    · repeat (refine Dgs.setOther ?_ HF.out _ _)
      exact HD.out
    · (repeat (refine Below.setCell ?_ (by simp) _)); exact HB.out

end Go.Proofs.Ytjhkjekbadbgnaa

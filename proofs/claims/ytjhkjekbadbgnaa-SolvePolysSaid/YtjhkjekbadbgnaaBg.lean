/- The search's begin; SolveOdd's walk. -/
import Derived.Test.YtjhkjekbadbgnaaSt
import Derived.Test.YtjhkjekbadbgnaaOd
namespace Go.Proofs.Ytjhkjekbadbgnaa
open Go.RowKit
set_option linter.unusedSimpArgs false
set_option linter.unusedVariables false

def BeginPost (g : Nat → Nat) (lo hi : Nat) (w : World) (en : Ending) (w' : World) : Prop :=
  ∃ (neg : Bool) (calls ask first : Nat) (done : Bool) (x : Nat) (e : Int), en = .returned (sval lo hi neg calls ask first done x e) ∧ SR g lo hi 100 lo hi neg calls ask first done x e ∧ Below w.heap.size w w'

theorem ltB_of {lo hi : Nat} (h1 : fin lo = true) (h2 : fin hi = true) : ltB lo hi = decide (rk lo < rk hi) := by
  unfold ltB; rw [nn_fin lo h1, nn_fin hi h2]; rfl

set_option maxHeartbeats 1600000 in
theorem begin_any (g : Nat → Nat) (lo hi : Nat) (hlo : F64 lo) (hhi : F64 hi) (w : World) :
    Calls Try.prog 24 #[.int .u64 lo, .int .u64 hi] w (BeginPost g lo hi w) := by
  cases hok : okEnds lo hi
  · have R : Hd (root g lo hi = (0, 0, 1)) := ⟨by unfold root; rw [if_pos hok]⟩
    cases h1 : fin lo
    · clear hok
      go_enter Try.func24, Try.ntmps24
      go_wp2_with fail
      refine (rNumber_any _ hlo _).mono ?_; rintro e w' ⟨rfl, rfl⟩
      go_wp2_with fail
      refine (ended_any lo hi false 0 lo 0 false 0 0 0 1 _).mono ?_; rintro en w1 ⟨rfl, hb⟩
      have B : Below w.heap.size w w1 := by
        refine Below.trans ?_ (hb.mono (by simp; omega))
        repeat (first | exact Below.refl _ _ | refine below_drewN ?_ _ | refine Below.setCell ?_ (by simp) _ | refine Below.alloc ?_ (by first | (simp; done) | (simp; omega)) _)
      have hk := cellb hb w.heap.size (by simp; omega)
      have hk2 := cellb hb (w.heap.size + 1) (by simp)
      have hz := hb.size
      clear hb
      simp at hz
      go_wp2_with fail
      exact bodyPost_ret (v := sval lo hi false 0 lo 0 true 0 1) (by simp [results, Try.results24, go_sem, hk]) rfl ⟨_, 0, _, 0, _, 0, _, rfl, .done _ _ _ _ _ _ _ _ _ R.out, by (repeat (refine Below.setCell ?_ (by simp) _)); exact B⟩
    · cases h2 : fin hi
      · clear hok
        go_enter Try.func24, Try.ntmps24
        go_wp2_with fail
        refine (rNumber_any _ hlo _).mono ?_; rintro e w' ⟨rfl, rfl⟩
        go_wp2_with fail
        refine (rNumber_any _ hhi _).mono ?_; rintro e w' ⟨rfl, rfl⟩
        go_wp2_with fail
        refine (ended_any lo hi false 0 lo 0 false 0 0 0 1 _).mono ?_; rintro en w1 ⟨rfl, hb⟩
        have B : Below w.heap.size w w1 := by
          refine Below.trans ?_ (hb.mono (by simp; omega))
          repeat (first | exact Below.refl _ _ | refine below_drewN ?_ _ | refine Below.setCell ?_ (by simp) _ | refine Below.alloc ?_ (by first | (simp; done) | (simp; omega)) _)
        have hk := cellb hb w.heap.size (by simp; omega)
        have hk2 := cellb hb (w.heap.size + 1) (by simp)
        have hz := hb.size
        clear hb
        simp at hz
        go_wp2_with fail
        exact bodyPost_ret (v := sval lo hi false 0 lo 0 true 0 1) (by simp [results, Try.results24, go_sem, hk]) rfl ⟨_, 0, _, 0, _, 0, _, rfl, .done _ _ _ _ _ _ _ _ _ R.out, by (repeat (refine Below.setCell ?_ (by simp) _)); exact B⟩
      · have h3 : ltB lo hi = false := by
          unfold okEnds at hok; rw [h1, h2] at hok; rw [ltB_of h1 h2]; simpa using hok
        clear hok
        go_enter Try.func24, Try.ntmps24
        go_wp2_with fail
        refine (rNumber_any _ hlo _).mono ?_; rintro e w' ⟨rfl, rfl⟩
        go_wp2_with fail
        refine (rNumber_any _ hhi _).mono ?_; rintro e w' ⟨rfl, rfl⟩
        go_wp2_with fail
        refine (rLt_any _ _ hlo hhi _).mono ?_; rintro e w' ⟨rfl, rfl⟩
        go_wp2_with fail
        refine (ended_any lo hi false 0 lo 0 false 0 0 0 1 _).mono ?_; rintro en w1 ⟨rfl, hb⟩
        have B : Below w.heap.size w w1 := by
          refine Below.trans ?_ (hb.mono (by simp; omega))
          repeat (first | exact Below.refl _ _ | refine below_drewN ?_ _ | refine Below.setCell ?_ (by simp) _ | refine Below.alloc ?_ (by first | (simp; done) | (simp; omega)) _)
        have hk := cellb hb w.heap.size (by simp; omega)
        have hk2 := cellb hb (w.heap.size + 1) (by simp)
        have hz := hb.size
        clear hb
        simp at hz
        go_wp2_with fail
        exact bodyPost_ret (v := sval lo hi false 0 lo 0 true 0 1) (by simp [results, Try.results24, go_sem, hk]) rfl ⟨_, 0, _, 0, _, 0, _, rfl, .done _ _ _ _ _ _ _ _ _ R.out, by (repeat (refine Below.setCell ?_ (by simp) _)); exact B⟩
  · obtain ⟨h1, h2, hlt⟩ := okEnds_of hok
    have h3 : ltB lo hi = true := by rw [ltB_of h1 h2, decide_eq_true hlt]
    have HOK := Hd.mk hok
    clear hok hlt
    go_enter Try.func24, Try.ntmps24
    go_wp2_with fail
    refine (rNumber_any _ hlo _).mono ?_; rintro e w' ⟨rfl, rfl⟩
    go_wp2_with fail
    refine (rNumber_any _ hhi _).mono ?_; rintro e w' ⟨rfl, rfl⟩
    go_wp2_with fail
    refine (rLt_any _ _ hlo hhi _).mono ?_; rintro e w' ⟨rfl, rfl⟩
    go_wp2_with fail
    exact bodyPost_ret (v := sval lo hi false 0 lo 0 false 0 0) (by simp [results, Try.results24, go_sem]) rfl ⟨_, 0, _, 0, _, 0, _, rfl, .begin _ _ _ _ HOK.out hlo hhi, ((Below.refl _ _).alloc (Nat.le_refl _) _).alloc (by simp) _⟩

end Go.Proofs.Ytjhkjekbadbgnaa

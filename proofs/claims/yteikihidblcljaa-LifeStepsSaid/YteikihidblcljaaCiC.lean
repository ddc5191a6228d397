/- The walks of the reference's Same, Check (tenorref14) and asked (tenorref23). -/
import Derived.Test.YteikihidblcljaaChC
import Derived.Test.YteikihidblcljaaM1
import Derived.Test.YteikihidblcljaaM2
import Derived.Test.YteikihidblcljaaM15
import Derived.StillTailTactics
namespace Go.Proofs.Yteikihidblcljaa
open Go.RowKit
set_option linter.unusedSimpArgs false
set_option linter.unusedVariables false

theorem same_own (x : Nat) : same x x = true := by unfold same; simp
set_option maxHeartbeats 3200000 in
set_option maxRecDepth 100000 in
theorem same14_any (ad : Option Addr) (l : List Fw) (c : Nat) (au : Option Addr) (cu : Nat) (w : World) (hl : Flws w ad l) (hu : FlwsU w au l) :
    Calls Try.prog 39 #[.slice ad l.length c, .slice au l.length cu] w fun e w' => e = .returned (.bool true) ∧ Below w.heap.size w w' := by
  have HF := Hd.mk hl
  have HU := Hd.mk hu
  have hlen := hl.len
  obtain ⟨n, hn⟩ : ∃ n, l.length = n := ⟨_, rfl⟩
  rw [hn] at hlen ⊢
  have HN := Hd.mk hn
  have x0 : ((n : Int) != (n : Int)) = false := by simp
  clear hl hu hn
  go_enter Try.func39, Try.ntmps39
  go_wp2_with fail
  go_loopw [5] (fun iv wr => ∃ k : Nat, k ≤ n ∧ iv = .int .i64 k ∧ Hd (Below w.heap.size w wr)) (fun iv _ => n - (intOf iv).toNat)
  case atStart => exact ⟨0, Nat.zero_le _, rfl, ⟨Below.refl _ _⟩⟩
  case round =>
    obtain ⟨k, hk, rfl, HB⟩ := hrel
    by_cases hlt : k < n
    · have hlt' : (k : Int) < n := by omega
      have k0 : (0 : Int) ≤ k := by omega
      obtain ⟨bb, oo, rfl, c1, c2, c3⟩ := (HF.out.below HB.out).cell k (by rw [HN.out]; exact hlt)
      obtain ⟨bu, ou, rfl, u1, u2, u3⟩ := (HU.out.below HB.out).cell k (by rw [HN.out]; exact hlt)
      have hF := HF.out.wf k
      generalize l.getD k fw0 = f at *
      obtain ⟨fd, fx, fc⟩ := f
      dsimp only at c1 c2 c3 u1 u2 u3 hF
      have HS : Hd (∀ w, Calls Try.prog 75 #[.int .u64 (fx : Nat), .int .u64 (fx : Nat)] w fun e w' => e = .returned (.bool true) ∧ w = w') := ⟨fun w => by
        have := rSame_any fx fx hF hF w
        rwa [same_own] at this⟩
      have x1 : ((fd : Int) != (fd : Int)) = false := by simp
      have x2 : ((fc : Int) != (fc : Int)) = false := by simp
      clear hlt hF
      go_upto_region 6 with fail
      go_quiet (first | (go_at_call 12; exact Calls.quiet_of_same ((apiBits_any _ _).mono fun _ _ h => ⟨h.1, h.2.symm⟩)) | (go_at_call 75; exact Calls.quiet_of_same ((HS.out _).mono fun _ _ h => ⟨h.1, h.2.symm⟩)))
      go_wp2_with fail
      exact ⟨⟨k + 1, by omega, by go_num, ⟨below_drewN HB.out _⟩⟩, by simp [intOf]; omega⟩
    · have hge : ¬ (k : Int) < n := by omega
      clear hlt
      go_wp2_with fail
      go_ret
      exact ⟨rfl, HB.out⟩

end Go.Proofs.Yteikihidblcljaa

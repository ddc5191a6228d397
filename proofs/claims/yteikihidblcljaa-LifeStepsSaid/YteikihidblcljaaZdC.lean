/- The walks of life's Left, told, Cash, Day. -/
import Derived.Test.YteikihidblcljaaZcC
import Derived.Test.YteikihidblcljaaM15
namespace Go.Proofs.Yteikihidblcljaa
open Go.RowKit
set_option linter.unusedSimpArgs false
set_option linter.unusedVariables false

/-- What is right about the flows of a ledger. -/
structure FwsOk (L : List Fw) : Prop where
  wf : ∀ k, F64 (L.getD k fw0).x
  rg : ∀ k, (-9223372036854775808 ≤ (L.getD k fw0).d ∧ (L.getD k fw0).d ≤ 9223372036854775807) ∧ (-9223372036854775808 ≤ (L.getD k fw0).c ∧ (L.getD k fw0).c ≤ 9223372036854775807)
  len : L.length ≤ 4096
/-- Flows in memory of the call's own. -/
def LeftRet (L : List Fw) (w : World) (e : Ending) (w' : World) : Prop := ∃ a c, e = .returned (.slice a L.length c) ∧ FrRet L w a w' ∧ Below w.heap.size w w'

set_option maxHeartbeats 1600000 in
theorem lifeLeft_any {base b : Nat} {L : List Fw} {z cur day : Int} {ba : Nat} {a : Option Addr} {c : Nat} (w : World) (h : Led w base b L z cur day ba a c) (hk : FwsOk L) :
    Calls Try.prog 38 #[.pointer (some ⟨b, 0, none⟩)] w (LeftRet L w) := by
  have HC := Hd.mk (cloneF_any a L c w h.own hk.wf hk.rg hk.len)
  obtain ⟨x0, x1, x2, x3⟩ := h.box.cell
  have HR : Hd (∀ e w', (∃ a c, e = .returned (.slice a L.length c) ∧ FrRet L w a w' ∧ Below w.heap.size w w') → LeftRet L w e w') := ⟨fun e w' h => h⟩
  unfold ClnRet at HC
  generalize L.length = n at *
  clear h hk x0 x2 x3
  go_enter Try.func38, Try.ntmps38
  go_wp2_with fail
  refine HC.out.mono ?_
  rintro e w1 ⟨a1, c1, rfl, hf, ⟨rfl, rfl, rfl⟩ | ⟨p, rfl, h1, h2⟩, hb⟩
  · have HF := Hd.mk hf
    have HB := Hd.mk hb
    clear hf hb
    go_wp2_with fail
    refine (clipF_none _).mono ?_; rintro e w2 ⟨rfl, rfl⟩
    go_wp2_with fail
    go_ret
    exact HR.out _ _ ⟨none, 0, rfl, HF.out, HB.out⟩
  · have HF := Hd.mk hf
    have HB := Hd.mk hb
    have HCl := Hd.mk (clipF_any p n c1 h1 h2)
    clear hf hb h1 h2
    go_wp2_with fail
    refine (HCl.out _).mono ?_; rintro e w2 ⟨rfl, rfl⟩
    go_wp2_with fail
    go_ret
    exact HR.out _ _ ⟨some p, n, rfl, HF.out, HB.out⟩

set_option maxHeartbeats 800000 in
theorem lifeDay_any {base b : Nat} {L : List Fw} {z cur day : Int} {ba : Nat} {a : Option Addr} {c : Nat} (w : World) (h : Led w base b L z cur day ba a c) :
    Calls Try.prog 36 #[.pointer (some ⟨b, 0, none⟩)] w fun e w' => e = .returned (.int .i64 day) ∧ w = w' := by
  obtain ⟨x0, x1, x2, x3⟩ := h.box.cell
  clear h x0 x1 x2
  go_enter Try.func36, Try.ntmps36
  go_wp2_with fail
  go_ret
  exact ⟨rfl, rfl⟩

set_option maxHeartbeats 1600000 in
theorem lifeTold_any (z : Int) (w : World) :
    Calls Try.prog 94 #[.float .f64 (overA z false false 1)] w fun e w' => e = .returned (.tuple #[.float .f64 (toldV z).1, .int .i64 (toldV z).2]) ∧ w = w' := by
  have hov := Hd.mk (overA_facts z)
  have HTV : Hd (toldV z = if fin (overA z false false 1) then (overA z false false 1, 0) else (0, 91)) := ⟨rfl⟩
  rw [HTV.out]
  clear HTV
  generalize overA z false false 1 = R at *
  have HNu := Hd.mk (lifeNumber_any R hov.out.1)
  cases hf : fin R
  · rw [hf] at HNu
    rw [if_neg (by decide)]
    clear hf hov
    go_enter Try.func94, Try.ntmps94
    go_wp2_with fail
    refine (HNu.out _).mono ?_; rintro e w1 ⟨rfl, rfl⟩
    go_wp2_with fail
    go_ret2
    exact ⟨rfl, rfl⟩
  · rw [hf] at HNu
    rw [if_pos rfl]
    clear hf hov
    go_enter Try.func94, Try.ntmps94
    go_wp2_with fail
    refine (HNu.out _).mono ?_; rintro e w1 ⟨rfl, rfl⟩
    go_wp2_with fail
    go_ret2
    exact ⟨rfl, rfl⟩

set_option maxHeartbeats 1600000 in
theorem lifeCash_any {base b : Nat} {L : List Fw} {z cur day : Int} {ba : Nat} {a : Option Addr} {c : Nat} (w : World) (h : Led w base b L z cur day ba a c) (hz : AccB z) :
    Calls Try.prog 37 #[.pointer (some ⟨b, 0, none⟩)] w (CrsRet (toldV z) w) := by
  obtain ⟨x0, x1, x2, x3⟩ := h.box.cell
  have HVl := Hd.mk (value_any ba z false false w h.acc hz)
  have HT := Hd.mk (lifeTold_any z)
  have HR : Hd (∀ e w', e = .returned (.tuple #[.float .f64 (toldV z).1, .int .i64 (toldV z).2]) ∧ Below w.heap.size w w' → CrsRet (toldV z) w e w') := ⟨fun e w' h => h⟩
  clear h hz x1 x2 x3
  generalize (toldV z).1 = T1 at *
  generalize (toldV z).2 = T2 at *
  generalize overA z false false 1 = R at *
  go_enter Try.func37, Try.ntmps37
  go_wp2_with fail
  refine HVl.out.mono ?_; rintro e w1 ⟨rfl, hb⟩
  have HB := Hd.mk hb
  clear hb
  go_wp2_with fail
  refine (HT.out _).mono ?_; rintro e w2 ⟨rfl, rfl⟩
  go_wp2_with fail
  exact bodyPost_ret (v := .tuple #[.float .f64 T1, .int .i64 T2]) (by simp [results, Try.results37, go_sem]) rfl (HR.out _ _ ⟨rfl, HB.out⟩)

end Go.Proofs.Yteikihidblcljaa

/- The walk of life's Pass, for any ledger. -/
import Derived.Test.YteikihidblcljaaZgC
namespace Go.Proofs.Yteikihidblcljaa
open Go.RowKit
set_option linter.unusedSimpArgs false
set_option linter.unusedVariables false

set_option maxHeartbeats 6400000 in
set_option maxRecDepth 100000 in
theorem lifePass_none {base b : Nat} {z cur day : Int} {ba : Nat} (n : Int) (w : World) (h : Led w base b [] z cur day ba none 0) :
    Calls Try.prog 35 #[.pointer (some ⟨b, 0, none⟩), .int .i64 n] w (PassRet [] base b z cur day n ba none 0 w) := by
  have HI := Hd.mk (lifeIs_any n)
  have HR : Hd (∀ e w', ((isDy n = false ∧ e = .returned (.tuple #[.slice none 0 0, .int .i64 51]) ∧ w' = w) ∨
    (isDy n = true ∧ n < day ∧ e = .returned (.tuple #[.slice none 0 0, .int .i64 240]) ∧ w' = w) ∨
    (isDy n = true ∧ day ≤ n ∧ (∃ ap, e = .returned (.tuple #[.slice ap 0 0, .int .i64 0]) ∧ FrRet [] w ap w') ∧ Led w' base b [] (z + 0) cur n ba none 0 ∧ Frm (fun k => k = b ∨ k = ba ∨ (Value.slice none 0 0).ownBlock = some k) w w')) → PassRet [] base b z cur day n ba none 0 w e w') := ⟨fun e w' h => h⟩
  obtain ⟨x0, x1, x2, x3⟩ := h.box.cell
  have x1' : w.cell? ⟨b, 1, none⟩ = some (.slice none 0 0) := x1
  have HL := Hd.mk h
  have fz := h.box.frozen
  cases hd : isDy n
  · rw [hd] at HI
    have HE := Hd.mk hd
    clear h hd x1
    go_enter Try.func35, Try.ntmps35
    go_wp2_with fail
    refine (HI.out _).mono ?_; rintro e w1 ⟨rfl, rfl⟩
    go_wp2_with fail
    exact bodyPost_ret (v := .tuple #[.slice none 0 0, .int .i64 51]) (by simp [results, Try.results35, go_sem]) rfl (HR.out _ _ (Or.inl ⟨HE.out, rfl, rfl⟩))
  rw [hd] at HI
  have HE := Hd.mk hd
  by_cases hp : n < day
  · have d1 := decide_eq_true hp
    have HP := Hd.mk hp
    clear h hd hp x1
    go_enter Try.func35, Try.ntmps35
    go_wp2_with fail
    refine (HI.out _).mono ?_; rintro e w1 ⟨rfl, rfl⟩
    go_wp2_with fail
    exact bodyPost_ret (v := .tuple #[.slice none 0 0, .int .i64 240]) (by simp [results, Try.results35, go_sem]) rfl (HR.out _ _ (Or.inr (Or.inl ⟨HE.out, HP.out, rfl, rfl⟩)))
  have d1 := decide_eq_false hp
  have HP : Hd (day ≤ n) := ⟨by omega⟩
  have hB : ∀ j, j ≠ b → (w.setCell ⟨b, 3, none⟩ (.int .i64 n)).heap[j]? = w.heap[j]? := fun j hj => Below.heap_setCell _ _ _ _ hj
  have LB : Hd (LBox (w.setCell ⟨b, 3, none⟩ (.int .i64 n)) b ba none 0 0 cur n) := ⟨h.box.setD n⟩
  have LA : Hd (AccIs (w.setCell ⟨b, 3, none⟩ (.int .i64 n)) ba z false false) := ⟨h.acc.same (hB ba h.ne)⟩
  have LF : Hd (Frm (fun k => k = b ∨ k = ba ∨ (Value.slice none 0 0).ownBlock = some k) w (w.setCell ⟨b, 3, none⟩ (.int .i64 n))) := ⟨(Frm.refl _ w).set 3 _ (Or.inl rfl)⟩
  have y1 := LB.out.cell.2.1
  have HNe := Hd.mk (And.intro h.bb (And.intro h.bba h.ne))
  clear h hd hp hB x1
  go_enter Try.func35, Try.ntmps35
  go_wp2_with fail
  refine (HI.out _).mono ?_; rintro e w1 ⟨rfl, rfl⟩
  go_wp2_with fail
  clear y1 x0 x1' x2 x3 fz
  generalize w.setCell ⟨b, 3, none⟩ (.int .i64 n) = wb at *
  go_loopw [6, 7, 33] (fun pv lv iv wr => pv = .slice none 0 0 ∧ lv = .slice none 0 0 ∧ iv = .int .i64 0 ∧ wr = wb) (fun _ _ iv _ => 0)
  case atStart => exact ⟨rfl, rfl, rfl, rfl⟩
  case round =>
    obtain ⟨rfl, rfl, rfl, rfl⟩ := hrel
    obtain ⟨z0, z1, z2, z3⟩ := LB.out.cell
    have fz := LB.out.frozen
    have LB2 := Hd.mk (LB.out.setL none 0 0)
    have LA2 := Hd.mk (LA.out.same (w' := wr.setCell ⟨b, 1, none⟩ (.slice none 0 0)) (Below.heap_setCell _ _ _ _ HNe.out.2.2))
    have LF2 := Hd.mk (LF.out.set 1 (.slice none 0 0) (Or.inl rfl))
    go_wp2_with fail
    refine (clipF_none _).mono ?_; rintro e w2 ⟨rfl, rfl⟩
    go_wp2_with fail
    exact bodyPost_ret (v := .tuple #[.slice none 0 0, .int .i64 0]) (by simp [results, Try.results35, go_sem]) rfl (HR.out _ _ (Or.inr (Or.inr ⟨HE.out, HP.out, ⟨none, rfl, Flws.nil _ _, Or.inl rfl⟩, ⟨LB2.out, by rw [Int.add_zero]; exact LA2.out, World.ownsRow_nil _ _ _ _, HNe.out.1, HNe.out.2.1, HNe.out.2.2, fun g hg => by cases hg⟩, LF2.out⟩)))

/-- Pass, for any ledger. -/
theorem lifePass_any {base b : Nat} {L : List Fw} {z cur day : Int} {ba : Nat} {a : Option Addr} {c : Nat} (n : Int) (w : World) (h : Led w base b L z cur day ba a c) (hk : FwsOk L) (hfn : ∀ k, k < L.length → fin (L.getD k fw0).x = true) :
    Calls Try.prog 35 #[.pointer (some ⟨b, 0, none⟩), .int .i64 n] w (PassRet L base b z cur day n ba a c w) := by
  rcases h.own.2 with ⟨e, h0⟩ | ⟨g, cap, cu, e, _⟩
  · obtain rfl : L = [] := List.length_eq_zero_iff.1 h0
    simp at e
    obtain ⟨rfl, rfl⟩ := e
    exact lifePass_none n w h
  · have e2 := e
    simp at e2
    obtain ⟨rfl, rfl⟩ := e2
    exact lifePass_some n w h hk hfn

end Go.Proofs.Yteikihidblcljaa

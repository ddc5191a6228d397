/- Put together out of several texts: Yg Yi. -/
import Derived.Test.YteikihidblcljaaM13
import Derived.Test.YteikihidblcljaaM1
import Derived.Test.YteikihidblcljaaM2
import Derived.Handy

/- The walk of fx's way. -/
namespace Go.Proofs.Yteikihidblcljaa
open Go.RowKit
set_option linter.unusedSimpArgs false
set_option linter.unusedVariables false

/-- The steps of a way, as the program keeps them: the last one first. -/
def stV (l : List (Pr × Bool)) : List Value := l.reverse.flatMap fun s => [.float .f64 s.1.x, .bool s.2]
theorem stV_nil : stV [] = [] := rfl
theorem stV_cons (p : Pr) (k : Bool) (l : List (Pr × Bool)) : stV ((p, k) :: l) = stV l ++ [.float .f64 p.x, .bool k] := by
  unfold stV
  rw [List.reverse_cons, List.flatMap_append]
  rfl
theorem cell_trP {w w' : World} (hb : Below w.heap.size w w') {b i : Nat} {v : Value} (h : w.cell? ⟨b, i, none⟩ = some v) : w'.cell? ⟨b, i, none⟩ = some v := (hb.cell (p := ⟨b, i, none⟩) (World.block_lt_of_cell? _ _ h)).trans h
end Go.Proofs.Yteikihidblcljaa

/- The walk of fx's Cross and Joined. -/
namespace Go.Proofs.Yteikihidblcljaa
open Go.RowKit
set_option linter.unusedSimpArgs false
set_option linter.unusedVariables false

open Classical in
/-- What Cross answers. -/
noncomputable def crsT (L : List Pr) (a b : Int) : Nat × Int :=
  if chkC a b ≠ 0 then (0, 140) else if h : ∃ l, Wk L 0 a b l then crA (Classical.choose h) else (0, 231)
theorem crsT_bad {L : List Pr} {a b : Int} (h : chkC a b ≠ 0) : crsT L a b = (0, 140) := by unfold crsT; rw [if_pos h]
theorem crsT_no {L : List Pr} {a b : Int} (h : chkC a b = 0) (hn : ∀ l, ¬ Wk L 0 a b l) : crsT L a b = (0, 231) := by
  unfold crsT
  rw [if_neg (by omega), dif_neg (fun ⟨l, w⟩ => hn l w)]
theorem crsT_way {L : List Pr} {a b : Int} (u : Uq L) (h : chkC a b = 0) {l : List (Pr × Bool)} (w : Wk L 0 a b l) : crsT L a b = crA l := by
  unfold crsT
  have hx : ∃ l, Wk L 0 a b l := ⟨l, w⟩
  rw [if_neg (by omega), dif_pos hx, u _ _ _ _ _ _ (Classical.choose_spec hx) w]
theorem chkC_140 {a b : Int} (h : chkC a b ≠ 0) : chkC a b = 140 := by
  unfold chkC at *; split at * <;> simp_all
open Classical in
/-- What Joined answers. -/
noncomputable def jnT (L : List Pr) (a b : Int) : Bool × Int := if chkC a b ≠ 0 then (false, 140) else (decide (Jn L a b), 0)

open Classical in
theorem jnT_bad {L : List Pr} {a b : Int} (h : chkC a b ≠ 0) : jnT L a b = (false, 140) := by unfold jnT; rw [if_pos h]
open Classical in
theorem jnT_no {L : List Pr} {a b : Int} (h : chkC a b = 0) (hn : ∀ l, ¬ Wk L 0 a b l) : jnT L a b = (false, 0) := by
  unfold jnT; rw [if_neg (by omega), decide_eq_false (fun ⟨l, hl⟩ => hn l hl)]
open Classical in
theorem jnT_yes {L : List Pr} {a b : Int} (h : chkC a b = 0) {l : List (Pr × Bool)} (hw : Wk L 0 a b l) : jnT L a b = (true, 0) := by
  unfold jnT; rw [if_neg (by omega), decide_eq_true ⟨l, hw⟩]

/-- The j-th step in memory. -/
theorem stV_get (l : List (Pr × Bool)) (j : Nat) (h : j < l.length) : (stV l)[j * 2]? = some (.float .f64 l[l.length - 1 - j].1.x) ∧ (stV l)[j * 2 + 1]? = some (.bool l[l.length - 1 - j].2) := by
  unfold stV
  have key : ∀ (m : List (Pr × Bool)) (j : Nat) (h : j < m.length), (m.flatMap fun s => [Value.float .f64 s.1.x, .bool s.2])[j * 2]? = some (.float .f64 m[j].1.x) ∧ (m.flatMap fun s => [Value.float .f64 s.1.x, .bool s.2])[j * 2 + 1]? = some (.bool m[j].2) := by
    intro m
    induction m with
    | nil => intro j h; simp at h
    | cons s r ih =>
      intro j h
      cases j with
      | zero => exact ⟨rfl, rfl⟩
      | succ j =>
        have := ih j (by simpa using h)
        rw [show (j + 1) * 2 = j * 2 + 1 + 1 by omega]
        simp only [List.flatMap_cons, List.cons_append, List.nil_append, List.getElem?_cons_succ, List.getElem_cons_succ]
        exact this
  have := key l.reverse j (by simpa using h)
  rw [List.getElem_reverse] at this
  exact this

/-- It returns a rate, or what is wrong. -/
def CrsRet (v : Nat × Int) (w : World) (e : Ending) (w' : World) : Prop := e = .returned (.tuple #[.float .f64 v.1, .int .i64 v.2]) ∧ Below w.heap.size w w'

end Go.Proofs.Yteikihidblcljaa

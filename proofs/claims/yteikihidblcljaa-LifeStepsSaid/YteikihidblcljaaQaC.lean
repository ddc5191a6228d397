/- Plain: layer 11: what is wrong with a curve; its table. No program. -/
import Derived.Test.YteikihidblcljaaM12
import Derived.Test.YteikihidblcljaaZaC
namespace Go.Proofs.Yteikihidblcljaa
open Go.RowKit
set_option linter.unusedSimpArgs false
set_option linter.unusedVariables false

/-- Is a node good, behind p? -/
def ndU (p x : Int) (y : Nat) : Bool := decide (p < x) && decide (x ≤ 109572) && fin y && ltF 0 y
def prvU (b : Int) (D : List Int) (i : Nat) : Int := if i = 0 then b else D.getD (i - 1) 0
def ndAU (b : Int) (D : List Int) (F : List Nat) (i : Nat) : Bool := ndU (prvU b D i) (D.getD i 0) (F.getD i 0)
def lnU (D : List Int) (F : List Nat) : Bool := decide (1 ≤ D.length) && decide (D.length ≤ 255) && decide (D.length = F.length)
/-- What is wrong with a curve. -/
def chkU (b kind : Int) (D : List Int) (F : List Nat) : Int :=
  if isDy b then (if knB kind then (if lnU D F then (if (List.range D.length).all (ndAU b D F) then 0 else 100) else 100) else 90) else 51
theorem chkU_base {b kind : Int} {D : List Int} {F : List Nat} (h : isDy b = false) : chkU b kind D F = 51 := by unfold chkU; rw [h]; rfl
theorem chkU_kind {b kind : Int} {D : List Int} {F : List Nat} (h0 : isDy b = true) (h : knB kind = false) : chkU b kind D F = 90 := by unfold chkU; rw [h0, h]; rfl
theorem chkU_len {b kind : Int} {D : List Int} {F : List Nat} (h0 : isDy b = true) (h : knB kind = true) (h1 : lnU D F = false) : chkU b kind D F = 100 := by unfold chkU; rw [h0, h, h1]; rfl
theorem chkU_node {b kind : Int} {D : List Int} {F : List Nat} (h0 : isDy b = true) (h : knB kind = true) (h1 : lnU D F = true) {i : Nat} (hi : i < D.length) (h2 : ndAU b D F i = false) : chkU b kind D F = 100 := by
  unfold chkU; rw [h0, h, h1]
  have : (List.range D.length).all (ndAU b D F) = false := by
    rw [List.all_eq_false]; exact ⟨i, List.mem_range.2 hi, by simp [h2]⟩
  rw [this]; rfl
theorem chkU_good {b kind : Int} {D : List Int} {F : List Nat} (h0 : isDy b = true) (h : knB kind = true) (h1 : lnU D F = true) (h2 : ∀ i, i < D.length → ndAU b D F i = true) : chkU b kind D F = 0 := by
  unfold chkU; rw [h0, h, h1]
  have : (List.range D.length).all (ndAU b D F) = true := by
    rw [List.all_eq_true]; intro i hi; exact h2 i (List.mem_range.1 hi)
  rw [this]; rfl
theorem chkU_ways (b kind : Int) (D : List Int) (F : List Nat) : chkU b kind D F = 0 ∨ chkU b kind D F = 51 ∨ chkU b kind D F = 90 ∨ chkU b kind D F = 100 := by
  unfold chkU; repeat' split
  all_goals simp
theorem ltF_one : ltF 0 one64 = true := by decide +kernel
theorem isDy_iff {n : Int} : isDy n = true ↔ 0 ≤ n ∧ n ≤ 109572 := by unfold isDy; simp
/-- A good curve. -/
structure COk (b kind : Int) (D : List Int) (F : List Nat) : Prop where
  b0 : 0 ≤ b
  b1 : b ≤ 109572
  k1 : 1 ≤ kind
  k4 : kind ≤ 4
  n1 : 1 ≤ D.length
  n2 : D.length ≤ 255
  ln : F.length = D.length
  up : ∀ i, i < D.length → prvU b D i < D.getD i 0
  hi : ∀ i, i < D.length → D.getD i 0 ≤ 109572
  fn : ∀ i, i < D.length → fin (F.getD i 0) = true
  ps : ∀ i, i < D.length → ltF 0 (F.getD i 0) = true
theorem chkU_ok {b kind : Int} {D : List Int} {F : List Nat} (h : chkU b kind D F = 0) : COk b kind D F := by
  unfold chkU at h
  split at h
  · rename_i hb
    split at h
    · rename_i hk
      split at h
      · rename_i hl
        split at h
        · rename_i ha
          rw [isDy_iff] at hb
          unfold knB at hk
          unfold lnU at hl
          simp only [Bool.and_eq_true, decide_eq_true_eq] at hk hl
          rw [List.all_eq_true] at ha
          have key : ∀ i, i < D.length → prvU b D i < D.getD i 0 ∧ D.getD i 0 ≤ 109572 ∧ fin (F.getD i 0) = true ∧ ltF 0 (F.getD i 0) = true := fun i hi => by
            have := ha i (List.mem_range.2 hi)
            unfold ndAU ndU at this
            simp only [Bool.and_eq_true, decide_eq_true_eq] at this
            exact ⟨this.1.1.1, this.1.1.2, this.1.2, this.2⟩
          exact ⟨hb.1, hb.2, hk.1, hk.2, hl.1.1, hl.1.2, hl.2.symm, fun i hi => (key i hi).1, fun i hi => (key i hi).2.1, fun i hi => (key i hi).2.2.1, fun i hi => (key i hi).2.2.2⟩
        · cases h
      · cases h
    · cases h
  · cases h
theorem chkU_of {b kind : Int} {D : List Int} {F : List Nat} (h : COk b kind D F) : chkU b kind D F = 0 := by
  refine chkU_good (isDy_iff.2 ⟨h.b0, h.b1⟩) (by unfold knB; have := h.k1; have := h.k4; simp; omega) (by unfold lnU; have := h.n1; have := h.n2; have := h.ln; simp; omega) fun i hi => ?_
  unfold ndAU ndU
  rw [decide_eq_true (h.up i hi), decide_eq_true (h.hi i hi), h.fn i hi, h.ps i hi]; rfl
theorem prvU_cons (b : Int) (D : List Int) (i : Nat) : prv (b :: D) (i + 1) = prvU b D i := by
  unfold prv prvU
  rw [if_neg (by omega), Nat.add_sub_cancel]
  cases i with
  | zero => simp
  | succ i => simp
/-- Its table is good. -/
theorem COk.tab {b kind : Int} {D : List Int} {F : List Nat} (h : COk b kind D F) : chkT kind (b :: D) (one64 :: F) = 0 := by
  refine chk_good (by unfold knB; have := h.k1; have := h.k4; simp; omega) (by unfold lnB; have := h.n1; have := h.n2; have := h.ln; simp; omega) fun i hi => ?_
  cases i with
  | zero =>
    unfold ndA ndB prv
    have := h.b0
    have := h.b1
    have o := one_ok.2.1
    simp [ltF_one, o]
    omega
  | succ i =>
    have hi' : i < D.length := by simpa using hi
    unfold ndA ndB
    rw [prvU_cons]
    have e1 : (b :: D).getD (i + 1) 0 = D.getD i 0 := by simp
    have e2 : (one64 :: F).getD (i + 1) 0 = F.getD i 0 := by simp
    rw [e1, e2]
    simp only [Bool.and_eq_true, decide_eq_true_eq, Bool.or_eq_true]
    exact ⟨⟨⟨h.up i hi', h.hi i hi'⟩, h.fn i hi'⟩, Or.inr (h.ps i hi')⟩
/-- What Factor answers. -/
def facU (b kind : Int) (D : List Int) (F : List Nat) (n : Int) : Nat × Int :=
  if chkU b kind D F = 0 then atT kind (b :: D) (one64 :: F) n else (0, chkU b kind D F)

end Go.Proofs.Yteikihidblcljaa

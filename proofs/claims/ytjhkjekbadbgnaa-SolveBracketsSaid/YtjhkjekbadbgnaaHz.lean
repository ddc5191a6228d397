/- Plain: Horner's scheme at -0 and at +0. No program but the names of Horner's text. -/
import Derived.Test.YtjhkjekbadbgnaaHo
import Derived.Test.YtjhkjekbadbgnaaNz
namespace Go.Proofs.Ytjhkjekbadbgnaa

theorem F64_horn : ∀ (l : List Nat) (x : Nat), (∀ a ∈ l, F64 a) → F64 (horn l x) := by
  intro l x h
  match l with
  | [] => exact ⟨by simp [horn]⟩
  | [c] => exact h c (by simp)
  | a :: b :: r => exact F64_fadd _ _

theorem horn_nz (x y : Nat) (hx : F64 x) (hy : F64 y) (zx : mg x = 0) (zy : mg y = 0) : ∀ l : List Nat, (∀ a ∈ l, F64 a) → nn (horn l x) = nn (horn l y) ∧ rk (horn l x) = rk (horn l y) := by
  intro l
  induction l with
  | nil => intro _; exact ⟨rfl, rfl⟩
  | cons a r ih =>
    intro h
    cases r with
    | nil => exact ⟨rfl, rfl⟩
    | cons b r =>
      have hr : ∀ c ∈ b :: r, F64 c := fun c hc => h c (List.mem_cons_of_mem _ hc)
      obtain ⟨i1, i2⟩ := ih hr
      have fx := F64_horn (b :: r) x hr
      have fy := F64_horn (b :: r) y hr
      show nn (fadd (fmul (horn (b :: r) x) x) a) = nn (fadd (fmul (horn (b :: r) y) y) a) ∧ rk (fadd (fmul (horn (b :: r) x) x) a) = rk (fadd (fmul (horn (b :: r) y) y) a)
      generalize horn (b :: r) x = p at *
      generalize horn (b :: r) y = q at *
      have hf : fin p = fin q := by
        have m1 := mg_rk p
        have m2 := mg_rk q
        have : mg p = mg q := by omega
        unfold fin; rw [this]
      rcases fmul_zero p x fx hx zx with ⟨f1, e1⟩ | ⟨f1, e1⟩ <;> rcases fmul_zero q y fy hy zy with ⟨f2, e2⟩ | ⟨f2, e2⟩
      · rw [e1, e2]; exact ⟨rfl, rfl⟩
      · rw [hf, f2] at f1; cases f1
      · rw [hf, f2] at f1; cases f1
      · exact fadd_zero _ _ a (F64_fmul _ _) (F64_fmul _ _) e1 e2

theorem atk_rk (x : Nat) (h : F64 x) : x = atk (rk x) ∨ (mg x = 0 ∧ rk x = 0) := by
  have h := h.out
  cases hng : ng x
  · left
    rw [rk_of_pos hng, ← atk_pos (by omega)]
    unfold ng at hng; unfold mg; simp at hng; omega
  · rw [rk_of_neg hng]
    unfold ng at hng; simp at hng
    by_cases h2 : mg x = 0
    · right; rw [h2]; exact ⟨rfl, rfl⟩
    · left
      unfold atk
      rw [if_pos (by omega)]
      unfold mg at *; omega

end Go.Proofs.Ytjhkjekbadbgnaa

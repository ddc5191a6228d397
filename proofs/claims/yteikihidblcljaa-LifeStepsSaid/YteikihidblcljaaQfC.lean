/- A region that draws its order: reads of cells that the region itself writes at its end may be taken first. No program. -/
import Derived.Test.YteikihidblcljaaM1
import Derived.OrdersHeld
import Derived.Deep.RegionHeld
namespace Go.Proofs.Yteikihidblcljaa
set_option linter.unusedSimpArgs false
set_option linter.unusedVariables false

section
variable {P : Program} {ops : Array Oper} {Q : Exit → Act → World → Prop} {md : Region.Mode} {S : World → Prop} {s : Nat}

/-- Whatever order comes: S holds behind each operation, as long as operation s has not come. -/
def AnyT (P : Program) (md : Region.Mode) (ops : Array Oper) (Q : Exit → Act → World → Prop) (S : World → Prop) (s : Nat) : Nat → Array Bool → Act → World → Prop
  | 0, l, a, w => Region.ready md ops l = [] ∧ Q .normal a w
  | f + 1, l, a, w => (Region.ready md ops l = [] → Q .normal a w) ∧ ∀ i ∈ Region.ready md ops l, wpOp P ops Q i (fun a' w' => ((l.setIfInBounds i true).getD s true = false → S w') ∧ AnyT P md ops Q S s f (l.setIfInBounds i true) a' w') a w
theorem AnyT.any : ∀ (f : Nat) (l : Array Bool) (a : Act) (w : World), AnyT P md ops Q S s f l a w → wpAny P md ops Q f l a w
  | 0, _, _, _, h => h
  | f + 1, _, _, _, h => ⟨h.1, fun i hi => wpOp_mono (fun a' w' h' => AnyT.any f _ a' w' h'.2) (h.2 i hi)⟩
theorem AnyT.first {i : Nat} {oi : Oper} {v : Value} (hi : ops[i]? = some oi) (hsel : ∀ (j : Nat) (o : Oper) cs b, ops[j]? = some o → o.op ≠ .select cs b)
    (hQ : ∀ c a w, Q (.panic c) (a.put oi.dst v) w → Q (.panic c) a w) (his : i ≠ s) (hse : ∀ os, ops[s]? = some os → ∃ e ∈ os.after, Region.binds md e = true ∧ e.on = i) :
    ∀ (f : Nat) (l : Array Bool) (a : Act) (w : World),
      (∀ j oj, ops[j]? = some oj → j ≠ i → l.getD j true = false → (∀ e ∈ oj.after, Region.binds md e = true → e.on ≠ i) → oi.apart ops oj = true) →
      i ∈ Region.ready md ops l → l.getD s true = false → YieldsIf P ops S oi v a → S w →
      AnyT P md ops Q S s f (l.setIfInBounds i true) (a.put oi.dst v) w → AnyT P md ops Q S s (f + 1) l a w := by
  intro f
  induction f with
  | zero =>
    intro l a w _ hr hls hy hS H
    refine ⟨fun h => absurd hr (by rw [h]; exact List.not_mem_nil), fun j hj => ?_⟩
    by_cases e : j = i
    · subst e
      exact hy.wpOp hi hS ⟨fun _ => hS, H⟩
    · have h := ready_mono hj e
      rw [H.1] at h
      exact absurd h List.not_mem_nil
  | succ f ih =>
    intro l a w hfree hr hls hy hS H
    refine ⟨fun h => absurd hr (by rw [h]; exact List.not_mem_nil), fun j hj => ?_⟩
    by_cases e : j = i
    · subst e
      exact hy.wpOp hi hS ⟨fun _ => hS, H⟩
    have h1 := H.2 j (ready_mono hj e)
    obtain ⟨hjl, oj, hoj, hall⟩ := mem_ready.1 hj
    have hnot : ∀ d ∈ oj.after, Region.binds md d = true → d.on ≠ i := fun d hd hb hq => by
      have a1 := hall d hd hb
      have a0 := (mem_ready.1 hr).1
      rw [hq] at a1
      rcases Nat.lt_or_ge i l.size with hlt | hge
      · simp [hlt] at a0 a1; rw [a0] at a1; exact absurd a1 (by decide)
      · simp [Array.getElem?_eq_none hge] at a1
    have hjs : j ≠ s := fun q => by
      subst q
      obtain ⟨d, hd, hb, hq⟩ := hse oj hoj
      exact hnot d hd hb hq
    have h2 := wpOp_putIf hoj (hfree j oj hoj e hjl hnot) (fun cs b => hsel i oi cs b hi) (fun cs b => hsel j oj cs b hoj) hQ hy h1
    have hfree' : ∀ k ok, ops[k]? = some ok → k ≠ i → (l.setIfInBounds j true).getD k true = false → (∀ d ∈ ok.after, Region.binds md d = true → d.on ≠ i) → oi.apart ops ok = true := fun k ok hk hki hun hno => by
      refine hfree k ok hk hki ?_ hno
      by_cases q : j = k
      · subst q; exact hjl
      · rw [getD_set_ne true q] at hun; exact hun
    have hls' : (l.setIfInBounds j true).getD s true = false := by rw [getD_set_ne true hjs]; exact hls
    refine wpOp_mono (fun a' w' h3 => ?_) h2
    have hS' : S w' := h3.2.1 (by rw [getD_set_ne true hjs, getD_set_ne true his]; exact hls)
    refine ⟨fun _ => hS', ih (l.setIfInBounds j true) a' w' hfree' (ready_mono hr (Ne.symm e)) hls' h3.1 hS' ?_⟩
    rw [Array.setIfInBounds_comm _ _ e]
    exact h3.2.2
/-- Number i is taken first. -/
theorem AnyT.take {i : Nat} {oi os : Oper} {v : Value} {f : Nat} {l : Array Bool} {a : Act} {w : World} (hi : ops[i]? = some oi) (hs : ops[s]? = some os)
    (hn : Region.noSelect ops = true) (hf : Region.free md ops l i = true) (hr : (Region.ready md ops l).contains i = true) (hse : os.after.any (fun e => Region.binds md e && e.on == i) = true) (hls : l.getD s true = false) (his : i ≠ s)
    (hQ : ∀ c a w, Q (.panic c) (a.put oi.dst v) w → Q (.panic c) a w) (hy : YieldsIf P ops S oi v a) (hS : S w)
    (h : AnyT P md ops Q S s f (l.setIfInBounds i true) (a.put oi.dst v) w) : AnyT P md ops Q S s (f + 1) l a w :=
  AnyT.first hi (Region.noSelect_spec hn) hQ his (fun os' h' => by
    rw [hs] at h'
    cases h'
    rw [Array.any_eq_true'] at hse
    obtain ⟨e, h1, h2⟩ := hse
    rw [Bool.and_eq_true, beq_iff_eq] at h2
    exact ⟨e, h1, h2.1, h2.2⟩) f l a w (Region.free_spec hi hf) (by simpa using hr) hls hy hS h
theorem AnyT.first0 {i : Nat} {oi : Oper} {v : Value} (hi : ops[i]? = some oi) (hsel : ∀ (j : Nat) (o : Oper) cs b, ops[j]? = some o → o.op ≠ .select cs b)
    (hQ : ∀ c a w, Q (.panic c) (a.put oi.dst v) w → Q (.panic c) a w) (his : i ≠ s) :
    ∀ (f : Nat) (l : Array Bool) (a : Act) (w : World),
      (∀ j oj, ops[j]? = some oj → j ≠ i → l.getD j true = false → (∀ e ∈ oj.after, Region.binds md e = true → e.on ≠ i) → oi.apart ops oj = true) →
      i ∈ Region.ready md ops l → YieldsIf P ops (fun _ => True) oi v a → (l.getD s true = false → S w) →
      AnyT P md ops Q S s f (l.setIfInBounds i true) (a.put oi.dst v) w → AnyT P md ops Q S s (f + 1) l a w := by
  intro f
  induction f with
  | zero =>
    intro l a w _ hr hy hS H
    refine ⟨fun h => absurd hr (by rw [h]; exact List.not_mem_nil), fun j hj => ?_⟩
    by_cases e : j = i
    · subst e
      exact hy.wpOp hi trivial ⟨fun h => hS (by rw [getD_set_ne true his] at h; exact h), H⟩
    · have h := ready_mono hj e
      rw [H.1] at h
      exact absurd h List.not_mem_nil
  | succ f ih =>
    intro l a w hfree hr hy hS H
    refine ⟨fun h => absurd hr (by rw [h]; exact List.not_mem_nil), fun j hj => ?_⟩
    by_cases e : j = i
    · subst e
      exact hy.wpOp hi trivial ⟨fun h => hS (by rw [getD_set_ne true his] at h; exact h), H⟩
    have h1 := H.2 j (ready_mono hj e)
    obtain ⟨hjl, oj, hoj, hall⟩ := mem_ready.1 hj
    have hnot : ∀ d ∈ oj.after, Region.binds md d = true → d.on ≠ i := fun d hd hb hq => by
      have a1 := hall d hd hb
      have a0 := (mem_ready.1 hr).1
      rw [hq] at a1
      rcases Nat.lt_or_ge i l.size with hlt | hge
      · simp [hlt] at a0 a1; rw [a0] at a1; exact absurd a1 (by decide)
      · simp [Array.getElem?_eq_none hge] at a1
    have h2 := wpOp_putIf hoj (hfree j oj hoj e hjl hnot) (fun cs b => hsel i oi cs b hi) (fun cs b => hsel j oj cs b hoj) hQ hy h1
    have hfree' : ∀ k ok, ops[k]? = some ok → k ≠ i → (l.setIfInBounds j true).getD k true = false → (∀ d ∈ ok.after, Region.binds md d = true → d.on ≠ i) → oi.apart ops ok = true := fun k ok hk hki hun hno => by
      refine hfree k ok hk hki ?_ hno
      by_cases q : j = k
      · subst q; exact hjl
      · rw [getD_set_ne true q] at hun; exact hun
    refine wpOp_mono (fun a' w' h3 => ?_) h2
    have hS' : (l.setIfInBounds j true).getD s true = false → S w' := fun h => h3.2.1 (by rw [Array.setIfInBounds_comm _ _ (Ne.symm e), getD_set_ne true his]; exact h)
    refine ⟨hS', ih (l.setIfInBounds j true) a' w' hfree' (ready_mono hr (Ne.symm e)) h3.1 hS' ?_⟩
    rw [Array.setIfInBounds_comm _ _ e]
    exact h3.2.2
/-- Number i, which looks at no world, is taken first. -/
theorem AnyT.take0 {i : Nat} {oi : Oper} {v : Value} {f : Nat} {l : Array Bool} {a : Act} {w : World} (hi : ops[i]? = some oi)
    (hn : Region.noSelect ops = true) (hf : Region.free md ops l i = true) (hr : (Region.ready md ops l).contains i = true) (his : i ≠ s)
    (hQ : ∀ c a w, Q (.panic c) (a.put oi.dst v) w → Q (.panic c) a w) (hy : YieldsIf P ops (fun _ => True) oi v a) (hS : l.getD s true = false → S w)
    (h : AnyT P md ops Q S s f (l.setIfInBounds i true) (a.put oi.dst v) w) : AnyT P md ops Q S s (f + 1) l a w :=
  AnyT.first0 hi (Region.noSelect_spec hn) hQ his f l a w (Region.free_spec hi hf) (by simpa using hr) hy hS h
/-- Whichever may come comes. -/
theorem AnyT.all {rs : List Nat} {f : Nat} {l : Array Bool} {a : Act} {w : World} (hr : Region.ready md ops l = rs) (hne : rs ≠ [])
    (h : ∀ i ∈ rs, wpOp P ops Q i (fun a' w' => ((l.setIfInBounds i true).getD s true = false → S w') ∧ AnyT P md ops Q S s f (l.setIfInBounds i true) a' w') a w) : AnyT P md ops Q S s (f + 1) l a w :=
  ⟨fun h0 => absurd (hr ▸ h0) hne, hr ▸ h⟩
theorem AnyT.one {i : Nat} {o : Oper} {f : Nat} {l : Array Bool} {a : Act} {w : World} (ho : ops[i]? = some o)
    (h : ∀ K' : Act → World → Prop, Shut (∀ a' w', ((l.setIfInBounds i true).getD s true = false → S w') → AnyT P md ops Q S s f (l.setIfInBounds i true) a' w' → K' a' w') → if Region.wanted o (yielded ops a.tmps) = true then Oper.wp P o a w K' Q else K' (a.put o.dst undef) w) :
    wpOp P ops Q i (fun a' w' => ((l.setIfInBounds i true).getD s true = false → S w') ∧ AnyT P md ops Q S s f (l.setIfInBounds i true) a' w') a w :=
  wpOp_step ho fun K' hK => h K' fun a' w' h1 h2 => hK a' w' ⟨h1, h2⟩
theorem AnyT.done {l : Array Bool} {a : Act} {w : World} (hr : Region.ready md ops l = []) (h : Q .normal a w) : ∀ f, AnyT P md ops Q S s f l a w
  | 0 => ⟨hr, h⟩
  | _ + 1 => ⟨fun _ => h, by rw [hr]; simp⟩
/-- The beginning. -/
theorem wp_region_T {id : Nat} {a : Act} {w : World} (S : World → Prop) (s : Nat) (hm : P.follows .mixedOrders = true) (h : AnyT P .any ops Q S s ops.size (Array.replicate ops.size false) a w.drew) : (Code.region id ops true).wp P Q a w :=
  wp_region_any hm (AnyT.any _ _ _ _ h)
end

end Go.Proofs.Yteikihidblcljaa

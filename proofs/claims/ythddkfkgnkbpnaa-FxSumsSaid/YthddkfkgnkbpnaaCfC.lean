/- Plain: the flows in the currency itself and their exact sum. -/
import Derived.Test.YthddkfkgnkbpnaaCdC
import Derived.Test.YthddkfkgnkbpnaaM19
import Derived.Test.YthddkfkgnkbpnaaM11
namespace Go.Proofs.Ythddkfkgnkbpnaa
set_option linter.unusedSimpArgs false
set_option linter.unusedVariables false

theorem SV_one : SV one64 = (U1 : Int) := by decide +kernel
theorem pZ_one (x : Nat) (h : fin x = true) : pZ x one64 = aZ x := by
  unfold pZ aZ
  rw [h, one64_facts.2.1, SV_one]
  rfl
/-- The flows in a currency. -/
def ownF (l : List Fw) (tc : Int) : List Fw := l.filter fun f => f.c == tc
def xsF (l : List Fw) : List Nat := l.map (·.x)
theorem ownF_take (l : List Fw) (tc : Int) (k : Nat) (h : k < l.length) : ownF (l.take (k + 1)) tc = if (l.getD k fw0).c = tc then ownF (l.take k) tc ++ [l.getD k fw0] else ownF (l.take k) tc := by
  unfold ownF
  rw [take_snocF l k h, List.filter_append]
  by_cases e : (l.getD k fw0).c = tc
  · rw [if_pos e]
    have h1 : [l.getD k fw0].filter (fun f => f.c == tc) = [l.getD k fw0] := by rw [List.filter_cons_of_pos (by rw [beq_iff_eq]; exact e), List.filter_nil]
    rw [h1]
  · rw [if_neg e]
    have h1 : [l.getD k fw0].filter (fun f => f.c == tc) = [] := by rw [List.filter_cons_of_neg (by rw [beq_iff_eq]; exact e), List.filter_nil]
    rw [h1, List.append_nil]
theorem ownF_len (l : List Fw) (tc : Int) : (ownF l tc).length ≤ l.length := List.length_filter_le _ _
theorem xsF_snoc (l : List Fw) (f : Fw) : zS (xsF (l ++ [f])) = zS (xsF l) + aZ f.x ∧ uS (xsF (l ++ [f])) = (uS (xsF l) || upB f.x) ∧ dS (xsF (l ++ [f])) = (dS (xsF l) || dnB f.x) := by
  unfold xsF uS dS
  rw [List.map_append]
  exact ⟨zS_snoc _ _, by simp, by simp⟩
theorem xsF_F64 {l : List Fw} (hw : ∀ k, F64 (l.getD k fw0).x) (i : Nat) : F64 ((xsF l).getD i 0) := by
  unfold xsF
  rw [List.getD_eq_getElem?_getD, List.getElem?_map]
  have := hw i
  rw [List.getD_eq_getElem?_getD] at this
  cases h : l[i]? with
  | none => exact ⟨by decide⟩
  | some f => rw [h] at this; exact this
theorem ownF_wf {l : List Fw} (hw : ∀ k, F64 (l.getD k fw0).x) (tc : Int) (n k : Nat) : F64 ((ownF (l.take n) tc).getD k fw0).x := by
  have h : ∀ f, f ∈ l → F64 f.x := (all_F fun f => F64 f.x).1 fun i _ => hw i
  by_cases hk : k < (ownF (l.take n) tc).length
  · rw [getD_F hk]
    have := List.getElem_mem hk
    unfold ownF at this
    exact h _ (List.mem_of_mem_take (List.mem_filter.1 this).1)
  · rw [List.getD_eq_getElem?_getD, List.getElem?_eq_none (by omega)]; exact ⟨by decide⟩
theorem ownF_rg {l : List Fw} (hr : ∀ k, (-9223372036854775808 ≤ (l.getD k fw0).d ∧ (l.getD k fw0).d ≤ 9223372036854775807) ∧ (-9223372036854775808 ≤ (l.getD k fw0).c ∧ (l.getD k fw0).c ≤ 9223372036854775807)) (tc : Int) (n k : Nat) :
    (-9223372036854775808 ≤ ((ownF (l.take n) tc).getD k fw0).d ∧ ((ownF (l.take n) tc).getD k fw0).d ≤ 9223372036854775807) ∧ (-9223372036854775808 ≤ ((ownF (l.take n) tc).getD k fw0).c ∧ ((ownF (l.take n) tc).getD k fw0).c ≤ 9223372036854775807) := by
  have h : ∀ f, f ∈ l → (-9223372036854775808 ≤ f.d ∧ f.d ≤ 9223372036854775807) ∧ (-9223372036854775808 ≤ f.c ∧ f.c ≤ 9223372036854775807) := (all_F fun f => (-9223372036854775808 ≤ f.d ∧ f.d ≤ 9223372036854775807) ∧ (-9223372036854775808 ≤ f.c ∧ f.c ≤ 9223372036854775807)).1 fun i _ => hr i
  by_cases hk : k < (ownF (l.take n) tc).length
  · rw [getD_F hk]
    have := List.getElem_mem hk
    unfold ownF at this
    exact h _ (List.mem_of_mem_take (List.mem_filter.1 this).1)
  · rw [List.getD_eq_getElem?_getD, List.getElem?_eq_none (by omega)]; simp [fw0]
theorem own_accB {l : List Fw} (hw : ∀ k, F64 (l.getD k fw0).x) (tc : Int) (n : Nat) (hn : n ≤ 1000) : AccB (zS (xsF (ownF (l.take n) tc))) := by
  refine (zS_bd _ (xsF_F64 (ownF_wf hw tc n))).accB (small_bd _ ?_)
  have h1 := ownF_len (l.take n) tc
  rw [List.length_take] at h1
  unfold xsF
  rw [List.length_map]
  omega
theorem smZ_own (L : List Pr) (g : Good L) (tc : Int) (hc : chkC tc tc = 0) : ∀ l : List Fw, (∀ f, f ∈ l → f.c = tc ∧ fin f.x = true) → smZ L tc l = zS (xsF l) ∧ uS (xsF l) = false ∧ dS (xsF l) = false
  | [], _ => ⟨rfl, rfl, rfl⟩
  | f :: l, h => by
    obtain ⟨h1, h2, h3⟩ := smZ_own L g tc hc l fun x hx => h x (by simp [hx])
    obtain ⟨e1, e2⟩ := h f (by simp)
    obtain ⟨f1, f2⟩ := flagB_fin f.x e2
    refine ⟨?_, ?_, ?_⟩
    · rw [smZ, h1, e1, crsT_self L g.tree.uq hc, pZ_one _ e2]; rfl
    · unfold uS xsF at *; simp [f1, h2]
    · unfold dS xsF at *; simp [f2, h3]
/-- Flows in the currency itself: what Sum tells is their exact sum, rounded. -/
theorem sumT_own (L : List Pr) (g : Good L) (l : List Fw) (tc : Int) (h : (sumT L (ownF l tc) tc).2 = 0) :
    (sumT L (ownF l tc) tc).1 = overA (zS (xsF (ownF l tc))) (uS (xsF (ownF l tc))) (dS (xsF (ownF l tc))) 1 := by
  by_cases hb : bgF (ownF l tc) tc = 0
  rotate_left
  · unfold sumT at h; rw [if_pos hb] at h; exact absurd h hb
  by_cases hf : feN L tc (ownF l tc) (ownF l tc).length = 0
  rotate_left
  · unfold sumT at h; rw [if_neg (by omega), if_pos hf] at h; exact absurd h hf
  obtain ⟨_, h2, h3⟩ := bgF_iff.1 hb
  have key := smZ_own L g tc h3 (ownF l tc) fun f hf => by
    refine ⟨?_, (badF_ok (h2 f hf)).2.1⟩
    unfold ownF at hf
    simpa using (List.mem_filter.1 hf).2
  have e : sumT L (ownF l tc) tc = toldV (sumZ L tc (ownF l tc) (ownF l tc).length) := by
    unfold sumT; rw [if_neg (by omega), if_neg (by omega)]
  rw [e] at h ⊢
  rw [sumZ_eq L tc _ _ (Nat.le_refl _), List.take_of_length_le (Nat.le_refl _), key.1] at h ⊢
  rw [key.2.1, key.2.2]
  unfold toldV at *
  split at h
  · next hh => rw [if_pos hh]
  · simp at h

end Go.Proofs.Ythddkfkgnkbpnaa

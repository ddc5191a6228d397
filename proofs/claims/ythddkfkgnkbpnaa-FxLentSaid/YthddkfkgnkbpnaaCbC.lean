/- Plain: a pair of the list by a power of 2, and turned round. -/
import Derived.Test.YthddkfkgnkbpnaaYxC
import Derived.Test.YthddkfkgnkbpnaaM20
namespace Go.Proofs.Ythddkfkgnkbpnaa
open Go.RowKit
set_option linter.unusedSimpArgs false
set_option linter.unusedVariables false

/-- The float 2^(K - 1023). -/
def pw2 (K : Nat) : Nat := K * 4503599627370496
theorem pw2_facts (K : Nat) (h1 : 1 ≤ K) (h2 : K ≤ 2046) : Rate (pw2 K) ∧ mnt (pw2 K) = 2 ^ 52 ∧ exq (pw2 K) = (K : Int) - 1023 - 52 := by
  have hm : mg (pw2 K) = K * 4503599627370496 := by unfold mg pw2; omega
  refine ⟨⟨⟨by unfold pw2; omega⟩, by unfold fin INF; rw [hm]; simp; omega, by unfold ng pw2; simp; omega, by rw [hm]; omega⟩, ?_, ?_⟩
  · unfold mnt
    rw [hm, if_neg (by omega), Nat.mul_mod_left]
  · unfold exq
    rw [hm, if_neg (by omega), Nat.mul_div_cancel _ (by decide)]
    omega
theorem set_permP : ∀ (l : List Pr) (i : Nat) (x : Pr), i < l.length → (l.set i x).Perm (l.eraseIdx i ++ [x])
  | [], i, x, h => by simp at h
  | a :: l, 0, x, _ => (List.perm_append_singleton x l).symm
  | a :: l, i + 1, x, h => (set_permP l i x (by simpa using h)).cons a
/-- The list with the pair by the power of 2, the list with the pair turned round. -/
structure Twn (l A B : List Pr) : Prop where
  la : A.length = l.length
  lb : B.length = l.length
  wa : ∀ i, F64 (A.getD i pr0).x
  wb : ∀ i, F64 (B.getD i pr0).x
  err : (newA A).1 = 0 ↔ (newA B).1 = 0
  cr : Good A → Good B ∧ ∀ a b, crsT A a b = crsT B a b
theorem twn (l : List Pr) (i : Nat) (h : i < l.length) (hw : ∀ i, F64 (l.getD i pr0).x) (K : Nat) (h1 : 23 ≤ K) (h2 : K ≤ 2023) :
    Twn l (l.set i ⟨(l.getD i pr0).a, (l.getD i pr0).b, pw2 K⟩) (l.set i ⟨(l.getD i pr0).b, (l.getD i pr0).a, pw2 (2046 - K)⟩) := by
  obtain ⟨r1, m1, e1⟩ := pw2_facts K (by omega) (by omega)
  obtain ⟨r2, m2, e2⟩ := pw2_facts (2046 - K) (by omega) (by omega)
  generalize l.getD i pr0 = p at *
  have t : Trn ⟨p.a, p.b, pw2 K⟩ ⟨p.b, p.a, pw2 (2046 - K)⟩ ((K : Int) - 1023) := ⟨rfl, rfl, m1, m2, e1, by show exq (pw2 (2046 - K)) = _; rw [e2]; omega⟩
  generalize hA : (⟨p.a, p.b, pw2 K⟩ : Pr) = A at *
  generalize hB : (⟨p.b, p.a, pw2 (2046 - K)⟩ : Pr) = B at *
  have rA : Rate A.x := by rw [← hA]; exact r1
  have rB : Rate B.x := by rw [← hB]; exact r2
  have PA := set_permP l i A h
  have PB := set_permP l i B h
  have ga : Good (l.set i A) → Good (l.set i B) := fun g => Good.perm PB.symm (Good.turn t rB (Good.perm PA g))
  have gb : Good (l.set i B) → Good (l.set i A) := fun g => Good.perm PA.symm (Good.turn t.symm rA (Good.perm PB g))
  have wa : ∀ j, F64 ((l.set i A).getD j pr0).x := fun j => by rw [getD_setP _ _ _ _ h]; split; exact rA.wf; exact hw j
  have wb : ∀ j, F64 ((l.set i B).getD j pr0).x := fun j => by rw [getD_setP _ _ _ _ h]; split; exact rB.wf; exact hw j
  refine ⟨by simp, by simp, wa, wb, ?_, fun g => ⟨ga g, fun a b => ?_⟩⟩
  · rw [newA_iff wa, newA_iff wb, List.length_set, List.length_set]
    exact ⟨fun ⟨x, y⟩ => ⟨x, ga y⟩, fun ⟨x, y⟩ => ⟨x, gb y⟩⟩
  · rw [crsT_perm PA g.tree.uq, crsT_perm PB (ga g).tree.uq]
    exact crsT_turn t (Good.perm PA g) (Good.perm PB (ga g)) a b
/-- One rate of the list written. -/
theorem PRow.setX {w : World} {g cap : Nat} {L : List Pr} (h : PRow w g cap L) (k : Nat) (x : Nat) (hk : k < L.length) (hx : F64 x) :
    PRow (w.setCell ⟨g, k * 3 + 2, none⟩ (.float .f64 x)) g cap (L.set k ⟨(L.getD k pr0).a, (L.getD k pr0).b, x⟩) where
  le := by rw [List.length_set]; exact h.le
  max := h.max
  row := by
    obtain ⟨F, hr, hF⟩ := h.row
    refine ⟨_, hr.set (k * 3 + 2) (.float .f64 x), fun j hj => ?_⟩
    rw [List.length_set] at hj
    rw [getD_setP _ _ _ _ hk]
    obtain ⟨f1, f2, f3⟩ := hF j hj
    by_cases e : j = k
    · subst e
      simp [f1, f2]
    · rw [if_neg e]
      refine ⟨?_, ?_, ?_⟩
      · rw [if_neg (by omega)]; exact f1
      · rw [if_neg (by omega)]; exact f2
      · rw [if_neg (by omega)]; exact f3
  wf := fun j => by rw [getD_setP _ _ _ _ hk]; split; exact hx; exact h.wf j
  rg := fun j => by rw [getD_setP _ _ _ _ hk]; split; exact h.rg k; exact h.rg j
/-- The list stays if its block does. -/
theorem PRow.same {w w' : World} {g cap : Nat} {L : List Pr} (h : PRow w g cap L) (hb : w'.heap[g]? = w.heap[g]?) : PRow w' g cap L := by
  obtain ⟨F, hr, hF⟩ := h.row
  exact ⟨h.le, h.max, ⟨F, hr.of_block hb, hF⟩, h.wf, h.rg⟩
theorem set3_block (w : World) (g k : Nat) (p : Pr) {b : Nat} (h : b ≠ g) : (set3 w g k p).heap[b]? = w.heap[b]? := by
  unfold set3
  rw [Below.heap_setCell _ _ _ _ h, Below.heap_setCell _ _ _ _ h, Below.heap_setCell _ _ _ _ h]

end Go.Proofs.Ythddkfkgnkbpnaa

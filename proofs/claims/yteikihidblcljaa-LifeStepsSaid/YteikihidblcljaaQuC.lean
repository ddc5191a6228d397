/- Plain: days pass by steps or at once; ledgers apart from each other. -/
import Derived.Test.YteikihidblcljaaQmC
import Derived.Laws.AppendOwnNone
namespace Go.Proofs.Yteikihidblcljaa
open Go.RowKit
set_option linter.unusedSimpArgs false
set_option linter.unusedVariables false

theorem stay_stay {L : List Fw} {m n : Int} (h : m ≤ n) : stayF (stayF L m) n = stayF L n := by
  unfold stayF
  rw [List.filter_filter]
  congr 1
  funext f
  by_cases e : f.d < n
  · simp [e]
  · have : ¬ f.d < m := by omega
    simp [e, this]
theorem paid_stay {L : List Fw} {m n : Int} (h : m ≤ n) : paidF (stayF L m) n = L.filter fun f => decide (f.d < n) && !decide (f.d < m) := by
  unfold paidF stayF
  rw [List.filter_filter]
theorem stay_all {L : List Fw} {n : Int} (h : ∀ f ∈ L, n ≤ f.d) : stayF L n = L ∧ paidF L n = [] := by
  unfold stayF paidF
  refine ⟨List.filter_eq_self.2 fun f hf => ?_, List.filter_eq_nil_iff.2 fun f hf => ?_⟩
  · have := h f hf; simp; omega
  · have := h f hf; simp; omega
theorem paid_count (L : List Fw) (n : Int) : (paidF L n).length + (stayF L n).length = L.length := by
  induction L with
  | nil => rfl
  | cons f L ih =>
    unfold paidF stayF at *
    by_cases e : f.d < n
    · rw [List.filter_cons_of_pos (by simpa using e), List.filter_cons_of_neg (by simpa using e)]
      simp only [List.length_cons]; omega
    · rw [List.filter_cons_of_neg (by simpa using e), List.filter_cons_of_pos (by simpa using e)]
      simp only [List.length_cons]; omega
theorem zS_appL (l m : List Nat) : zS (l ++ m) = zS l + zS m := by
  induction l with
  | nil => simp [zS]
  | cons x l ih => rw [List.cons_append, zS, zS, ih]; omega
theorem paid_split {L : List Fw} {m n : Int} (h : m ≤ n) : paidZ L n = paidZ L m + paidZ (stayF L m) n ∧ (paidF L n).length = (paidF L m).length + (paidF (stayF L m) n).length := by
  unfold paidZ
  rw [paid_stay h]
  induction L with
  | nil => exact ⟨rfl, rfl⟩
  | cons f L ih =>
    obtain ⟨i1, i2⟩ := ih
    unfold paidF at *
    by_cases e1 : f.d < m
    · have e2 : f.d < n := by omega
      rw [List.filter_cons_of_pos (by simpa using e2), List.filter_cons_of_pos (by simpa using e1), List.filter_cons_of_neg (by simp [e1])]
      simp only [List.map_cons, zS, List.length_cons]
      exact ⟨by omega, by omega⟩
    · by_cases e2 : f.d < n
      · rw [List.filter_cons_of_pos (by simpa using e2), List.filter_cons_of_neg (by simpa using e1), List.filter_cons_of_pos (by simp [e1, e2])]
        simp only [List.map_cons, zS, List.length_cons]
        exact ⟨by omega, by omega⟩
      · rw [List.filter_cons_of_neg (by simpa using e2), List.filter_cons_of_neg (by simpa using e1), List.filter_cons_of_neg (by simp [e2])]
        exact ⟨i1, i2⟩
theorem mine_ge {l : List Fw} {cur day : Int} (h : ∀ i, i < l.length → (l.getD i fw0).c = cur → day ≤ (l.getD i fw0).d) : ∀ f ∈ mineF l cur, day ≤ f.d := fun f hf => by
  unfold mineF at hf
  obtain ⟨h1, h2⟩ := List.mem_filter.1 hf
  obtain ⟨i, hi, e⟩ := List.getElem_of_mem h1
  have := h i hi (by rw [getD_F hi, e]; simpa using h2)
  rwa [getD_F hi, e] at this
theorem paid_in {L : List Fw} {m n : Int} : ∀ k, k < (paidF (stayF L m) n).length → m ≤ ((paidF (stayF L m) n).getD k fw0).d ∧ ((paidF (stayF L m) n).getD k fw0).d < n := fun k hk => by
  have key : ∀ f ∈ paidF (stayF L m) n, m ≤ f.d ∧ f.d < n := fun f hm => by
    unfold paidF stayF at hm
    obtain ⟨h1, h2⟩ := List.mem_filter.1 hm
    obtain ⟨h3, h4⟩ := List.mem_filter.1 h1
    exact ⟨by simpa using h4, by simpa using h2⟩
  exact key _ (by rw [getD_F hk]; exact List.getElem_mem hk)

/-- Rows and ledgers that lie at base or behind it are as they were, if nothing from there on has changed. -/
theorem ownsRow_frm {S : Nat → Prop} {w w' : World} {base : Nat} {t : TypeId} {size n : Nat} {v : Value} {xs : List Value} (h : w.ownsRow base t size v n xs) (hf : Frm S w w') (hS : ∀ k, S k → v.ownBlock = some k → False) : w'.ownsRow base t size v n xs := by
  obtain ⟨p1, p2 | ⟨g, cap, cur, e, q1, q2, q3⟩⟩ := h
  · exact ⟨p1, Or.inl p2⟩
  · refine ⟨p1, Or.inr ⟨g, cap, cur, e, q1, (hf.block g (Array.getElem?_eq_some_iff.1 q2).1 (fun s => hS g s ?_)).trans q2, q3⟩⟩
    rw [e]; rfl
theorem Led.frm {S : Nat → Prop} {w w' : World} {base b : Nat} {L : List Fw} {z cur day : Int} {ba : Nat} {a : Option Addr} {c : Nat} (h : Led w base b L z cur day ba a c) (hf : Frm S w w') (hS : ∀ k, S k → k ≠ b ∧ k ≠ ba ∧ (Value.slice a L.length c).ownBlock ≠ some k) : Led w' base b L z cur day ba a c :=
  ⟨h.box.same (hf.block b h.box.lt fun s => (hS b s).1 rfl), h.acc.same (hf.block ba h.acc.lt fun s => (hS ba s).2.1 rfl), ownsRow_frm h.own hf fun k s e => (hS k s).2.2 e, h.bb, h.bba, h.ne, h.ng⟩
/-- Where a ledger's blocks lie. -/
structure LIn (lo hi b ba : Nat) (a : Option Addr) : Prop where
  b1 : lo ≤ b
  b2 : b < hi
  c1 : lo ≤ ba
  c2 : ba < hi
  d1 : ∀ n c g, (Value.slice a n c).ownBlock = some g → lo ≤ g ∧ g < hi
theorem own_any {a : Option Addr} {n c n' c' : Nat} : (Value.slice a n c).ownBlock = (Value.slice a n' c').ownBlock := by
  cases a with
  | none => rfl
  | some p => rfl
theorem Led.lin {w : World} {base b : Nat} {L : List Fw} {z cur day : Int} {ba : Nat} {a : Option Addr} {c : Nat} (h : Led w base b L z cur day ba a c) : LIn base w.heap.size b ba a :=
  ⟨h.bb, h.box.lt, h.bba, h.acc.lt, fun n c' g e => h.own.lt g (by rw [← e]; exact own_any)⟩
theorem LIn.S {lo hi b ba : Nat} {a : Option Addr} (h : LIn lo hi b ba a) {n c : Nat} : ∀ k, (k = b ∨ k = ba ∨ (Value.slice a n c).ownBlock = some k) → lo ≤ k ∧ k < hi := by
  rintro k (rfl | rfl | e)
  · exact ⟨h.b1, h.b2⟩
  · exact ⟨h.c1, h.c2⟩
  · exact h.d1 n c k e
theorem LIn.not {lo hi b ba : Nat} {a : Option Addr} (h : LIn lo hi b ba a) {k : Nat} (hk : k < lo ∨ hi ≤ k) {n c : Nat} : k ≠ b ∧ k ≠ ba ∧ (Value.slice a n c).ownBlock ≠ some k :=
  ⟨fun e => by have := h.b1; have := h.b2; omega, fun e => by have := h.c1; have := h.c2; omega, fun e => by have := h.d1 n c k e; omega⟩

/-- Flows are laid behind a row of the call's own; a nil list, too. -/
theorem flws_news {w : World} {p : Addr} {L : List Fw} (h : Flws w (some p) L) : ∀ j u, (flV L)[j]? = some u → w.cell? (p.add j) = some u := by
  intro j u hu
  have hj : j < L.length * 3 := by
    rcases Nat.lt_or_ge j (flV L).length with h1 | h1
    · rwa [flV_len] at h1
    · rw [List.getElem?_eq_none h1] at hu; simp at hu
  obtain ⟨b, o, e, c1, c2, c3⟩ := h.cell (j / 3) (by omega)
  cases e
  obtain ⟨v1, v2, v3⟩ := flV_get L (j / 3) (by omega)
  have ha : ∀ i, (⟨b, o, none⟩ : Addr).add i = ⟨b, o + i, none⟩ := fun i => by by_cases h0 : i = 0 <;> simp [Addr.add, h0]
  rw [ha]
  have hm : j % 3 = 0 ∨ j % 3 = 1 ∨ j % 3 = 2 := by omega
  rcases hm with h0 | h0 | h0
  · have e : j = j / 3 * 3 := by omega
    rw [e] at hu ⊢
    rw [v1] at hu; cases hu
    exact c1
  · have e : j = j / 3 * 3 + 1 := by omega
    rw [e] at hu ⊢
    rw [v2] at hu; cases hu
    exact c2
  · have e : j = j / 3 * 3 + 2 := by omega
    rw [e] at hu ⊢
    rw [v3] at hu; cases hu
    exact c3
theorem wpList_app_flows {w : World} {ops : Array Oper} {rest : List Oper} {o : Oper} {a : Act} {Q : Exit → Act → World → Prop} (hgd : o.guard = none) (s x : Operand)
    (ho : o.op = .call { callee := .builtin .append, args := #[s, x], argTypes := #[67, 67] })
    (base : Nat) (v : Value) (P : List Fw) (hs : a.eval s = v) (hown : w.ownsRow base 74 3 v P.length (flV P))
    (ad : Option Addr) (K : List Fw) (hx : a.eval x = .slice ad K.length K.length) (hk : Flws w ad K) (h63 : P.length + K.length ≤ 100000) (hbase : base ≤ w.heap.size)
    (h0 : ∀ P2 a' c' w', Hd (P2 = P ++ K) → w'.ownsRow base 74 3 (.slice a' P2.length c') P2.length (flV P2) → Below base w w' → wpList Try.prog ops Q rest (a.put o.dst (.slice a' P2.length c')) w') : wpList Try.prog ops Q (o :: rest) a w := by
  have h := fun a' c' w' => h0 (P ++ K) a' c' w' ⟨rfl⟩
  obtain ⟨i0, hi, hz0, hz1, hz2⟩ := info_partsF
  have hfl : flV (P ++ K) = flV P ++ flV K := by unfold flV; rw [List.flatMap_append]
  have fin : ∀ v' w', w'.ownsRow base 74 3 v' (P.length + K.length) (flV P ++ flV K) → Below base w w' → wpList Try.prog ops Q rest (a.put o.dst v') w' := fun v' w' h1 h2 => by
    rw [← hfl, ← List.length_append] at h1
    rcases h1.2 with ⟨rfl, e⟩ | ⟨g, cap, cur, rfl, q⟩
    · have := h none 0 w' (by rw [e]; rw [e] at h1; exact h1) h2
      rw [e] at this
      exact this
    · exact h _ _ w' h1 h2
  cases ad with
  | none =>
    have hK : K = [] := by
      cases K with
      | nil => rfl
      | cons f K => obtain ⟨b, o, e, _⟩ := hk.cell 0 (by simp); cases e
    subst hK
    refine wpList_append_own_none hgd s x 67 ho base 74 i0 3 Try.underlying67 hi v P.length (flV P) hs hown (by simpa using hx) ?_
    exact fin v w (by simpa [flV] using hown) (Below.refl _ _)
  | some p =>
    refine wpList_append_own w hgd s x 67 ho base 74 i0 (.agg #[.int .i64 0, .float .f64 0, .int .i64 0]) 3 24 Try.underlying67 hi hz0 hz1 hz2 rfl (by decide) v P.length (flV P) hs hown p K.length K.length (flV K) hx (flV_len K) (flws_news hk) (flV_one K) (by unfold maxLen; omega) (by omega) hbase ?_
    intro v' w' h2 h3 _
    exact fin v' w' h2 ((Below.refl _ _).grown h3 hbase fun k hk => (hown.lt k hk).1)

end Go.Proofs.Yteikihidblcljaa

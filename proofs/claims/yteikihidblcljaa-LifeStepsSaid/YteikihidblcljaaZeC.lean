/- A ledger's row while days pass: what is left is written over it in place. -/
import Derived.Test.YteikihidblcljaaZdC
namespace Go.Proofs.Yteikihidblcljaa
open Go.RowKit
set_option linter.unusedSimpArgs false
set_option linter.unusedVariables false

/-- What was paid, what is left. -/
def paidF (L : List Fw) (n : Int) : List Fw := L.filter fun f => decide (f.d < n)
def stayF (L : List Fw) (n : Int) : List Fw := L.filter fun f => !decide (f.d < n)
theorem stayF_take (L : List Fw) (n : Int) (k : Nat) (h : k < L.length) : stayF (L.take (k + 1)) n = if (L.getD k fw0).d < n then stayF (L.take k) n else stayF (L.take k) n ++ [L.getD k fw0] := by
  unfold stayF
  rw [take_snocF L k h, List.filter_append]
  by_cases e : (L.getD k fw0).d < n
  · rw [if_pos e]
    have h1 : [L.getD k fw0].filter (fun f => !decide (f.d < n)) = [] := by rw [List.filter_cons_of_neg (by simpa using e), List.filter_nil]
    rw [h1, List.append_nil]
  · rw [if_neg e]
    have h1 : [L.getD k fw0].filter (fun f => !decide (f.d < n)) = [L.getD k fw0] := by rw [List.filter_cons_of_pos (by simpa using e), List.filter_nil]
    rw [h1]
theorem paidF_take (L : List Fw) (n : Int) (k : Nat) (h : k < L.length) : paidF (L.take (k + 1)) n = if (L.getD k fw0).d < n then paidF (L.take k) n ++ [L.getD k fw0] else paidF (L.take k) n := by
  unfold paidF
  rw [take_snocF L k h, List.filter_append]
  by_cases e : (L.getD k fw0).d < n
  · rw [if_pos e]
    have h1 : [L.getD k fw0].filter (fun f => decide (f.d < n)) = [L.getD k fw0] := by rw [List.filter_cons_of_pos (by simpa using e), List.filter_nil]
    rw [h1]
  · rw [if_neg e]
    have h1 : [L.getD k fw0].filter (fun f => decide (f.d < n)) = [] := by rw [List.filter_cons_of_neg (by simpa using e), List.filter_nil]
    rw [h1, List.append_nil]
theorem stayF_len (L : List Fw) (n : Int) (k : Nat) : (stayF (L.take k) n).length ≤ k := by
  have h1 : (stayF (L.take k) n).length ≤ (L.take k).length := List.length_filter_le _ _
  rw [List.length_take] at h1
  omega
/-- The sum of what was paid. -/
def paidZ (L : List Fw) (n : Int) : Int := zS ((paidF L n).map (·.x))
theorem paidZ_take (L : List Fw) (n : Int) (k : Nat) (h : k < L.length) : paidZ (L.take (k + 1)) n = if (L.getD k fw0).d < n then paidZ (L.take k) n + aZ (L.getD k fw0).x else paidZ (L.take k) n := by
  unfold paidZ
  rw [paidF_take L n k h]
  split
  · rw [List.map_append]; exact zS_snoc _ _
  · rfl

/-- The ledger's row at the k-th flow: what is left so far lies ahead, the flows from k on are as they were. -/
structure PasR (w : World) (g c : Nat) (L : List Fw) (n : Int) (k : Nat) : Prop where
  ex : ∃ cur, w.heap[g]? = some (.cells cur 74 (0, 0)) ∧ cur.size = c * 3 ∧ cur.toList.take ((stayF (L.take k) n).length * 3) = flV (stayF (L.take k) n) ∧ ∀ i, k * 3 ≤ i → i < L.length * 3 → cur[i]? = (flV L)[i]?
  le : L.length ≤ c
  cm : c ≤ maxLen
theorem PasR.same {w w' : World} {g c : Nat} {L : List Fw} {n : Int} {k : Nat} (h : PasR w g c L n k) (hb : w'.heap[g]? = w.heap[g]?) : PasR w' g c L n k := by
  obtain ⟨cur, h1, h2⟩ := h.ex
  exact ⟨⟨cur, hb.trans h1, h2⟩, h.le, h.cm⟩
theorem PasR.lt {w : World} {g c : Nat} {L : List Fw} {n : Int} {k : Nat} (h : PasR w g c L n k) : g < w.heap.size := by
  obtain ⟨cur, h1, _⟩ := h.ex
  exact (Array.getElem?_eq_some_iff.1 h1).1
theorem PasR.begin {w : World} {base g c : Nat} {L : List Fw} (h : w.ownsRow base 74 3 (.slice (some ⟨g, 0, none⟩) L.length c) L.length (flV L)) (n : Int) : PasR w g c L n 0 := by
  rcases h.2 with ⟨e, _⟩ | ⟨g', cap, cur, e, hb, hg, hnc, hcm, hcs, ht⟩
  · cases e
  · simp at e
    obtain ⟨rfl, rfl⟩ := e
    refine ⟨⟨cur, hg, hcs, by simp [stayF, flV], fun i _ hi => ?_⟩, hnc, hcm⟩
    rw [← ht, List.getElem?_take_of_lt hi, Array.getElem?_toList]
theorem PasR.cell {w : World} {g c : Nat} {L : List Fw} {n : Int} {k : Nat} (h : PasR w g c L n k) (hk : k < L.length) :
    w.cell? ⟨g, k * 3, none⟩ = some (.int .i64 (L.getD k fw0).d) ∧ w.cell? ⟨g, k * 3 + 1, none⟩ = some (.float .f64 (L.getD k fw0).x) ∧ w.cell? ⟨g, k * 3 + 2, none⟩ = some (.int .i64 (L.getD k fw0).c) := by
  obtain ⟨cur, h1, _, _, h4⟩ := h.ex
  obtain ⟨c1, c2, c3⟩ := flV_get L k hk
  refine ⟨?_, ?_, ?_⟩
  · rw [cell_of_row w g _ cur _ _ h1, h4 _ (by omega) (by omega)]; exact c1
  · rw [cell_of_row w g _ cur _ _ h1, h4 _ (by omega) (by omega)]; exact c2
  · rw [cell_of_row w g _ cur _ _ h1, h4 _ (by omega) (by omega)]; exact c3
theorem PasR.skip {w : World} {g c : Nat} {L : List Fw} {n : Int} {k : Nat} (h : PasR w g c L n k) (hk : k < L.length) (hd : (L.getD k fw0).d < n) : PasR w g c L n (k + 1) ∧ (stayF (L.take (k + 1)) n).length = (stayF (L.take k) n).length := by
  have e := stayF_take L n k hk
  rw [if_pos hd] at e
  obtain ⟨cur, h1, h2, h3, h4⟩ := h.ex
  exact ⟨⟨⟨cur, h1, h2, by rw [e]; exact h3, fun i hi => h4 i (by omega)⟩, h.le, h.cm⟩, by rw [e]⟩
theorem PasR.own {w : World} {base g c : Nat} {L : List Fw} {n : Int} (h : PasR w g c L n L.length) (hb : base ≤ g) : w.ownsRow base 74 3 (.slice (some ⟨g, 0, none⟩) (stayF L n).length c) (stayF L n).length (flV (stayF L n)) := by
  obtain ⟨cur, h1, h2, h3, h4⟩ := h.ex
  rw [List.take_of_length_le (Nat.le_refl _)] at h3
  have hl : (stayF L n).length ≤ L.length := List.length_filter_le _ _
  exact ⟨flV_len _, Or.inr ⟨g, c, cur, rfl, hb, h1, Nat.le_trans hl h.le, h.cm, h2, h3⟩⟩
/-- What is left is written in place. -/
theorem PasR.put {w : World} {g c : Nat} {L : List Fw} {n : Int} {k : Nat} (ty : TypeId) (h : PasR w g c L n k) (hk : k < L.length) (hd : ¬ (L.getD k fw0).d < n) (ad : Addr)
    (hnews : ∀ j u, [Value.int .i64 (L.getD k fw0).d, .float .f64 (L.getD k fw0).x, .int .i64 (L.getD k fw0).c][j]? = some u → w.cell? (ad.add j) = some u) :
    ∃ w', (Builtin.append_ #[67, 67] ty #[.slice (some ⟨g, 0, none⟩) (stayF (L.take k) n).length c, .slice (some ad) 1 1]).run Try.prog w = .ok (.slice (some ⟨g, 0, none⟩) (stayF (L.take (k + 1)) n).length c) w' ∧
      PasR w' g c L n (k + 1) ∧ w.grownBy w' (some g) := by
  have e := stayF_take L n k hk
  rw [if_neg hd] at e
  obtain ⟨i0, hi, hz0, hz1, hz2⟩ := info_partsF
  obtain ⟨cur, h1, h2, h3, h4⟩ := h.ex
  have hJ := stayF_len L n k
  have hle := h.le
  have h1c : ∀ u ∈ [Value.int .i64 (L.getD k fw0).d, .float .f64 (L.getD k fw0).x, .int .i64 (L.getD k fw0).c], u.oneCell' = true := by intro u hu; simp only [List.mem_cons, List.not_mem_nil, or_false] at hu; rcases hu with rfl | rfl | rfl <;> rfl
  have hf : flV (stayF (L.take (k + 1)) n) = flV (stayF (L.take k) n) ++ [.int .i64 (L.getD k fw0).d, .float .f64 (L.getD k fw0).x, .int .i64 (L.getD k fw0).c] := by rw [e, flV_snoc]
  have hl2 : (stayF (L.take (k + 1)) n).length = (stayF (L.take k) n).length + 1 := by rw [e]; simp
  have hfl := flV_len (stayF (L.take k) n)
  rw [hl2]
  generalize [Value.int .i64 (L.getD k fw0).d, .float .f64 (L.getD k fw0).x, .int .i64 (L.getD k fw0).c] = news at *
  have hnl : news.length = 3 := by
    have := congrArg List.length hf
    rw [flV_len, List.length_append, hfl, hl2] at this
    omega
  generalize hJe : (stayF (L.take k) n).length = J at *
  have hr := run_append_room (P := Try.prog) w 67 ty 74 i0 Try.underlying67 hi g J c cur h1 ad 1 1 news (by rw [hz1, hnl]) hnews h1c (by omega) (by rw [hz1, hnl, h2]; omega)
  rw [hz1, hnl] at hr
  have hts : cur.toList.length = c * 3 := by rw [Array.length_toList, h2]
  have htl : (cur.toList.take (J * 3)).length = J * 3 := by rw [List.length_take, hts]; omega
  refine ⟨_, hr, ⟨⟨_, setRow_heap w g cur _ _ _ h1, ?_, ?_, fun i hi1 hi2 => ?_⟩, h.le, h.cm⟩, ⟨rfl, rfl, rfl, by simp, fun k _ hk => setRow_other w g k _ (fun e => hk (by simp [e]))⟩⟩
  · simp only [List.size_toArray, List.length_append, List.length_drop, htl, hnl, hts]
    omega
  · rw [hl2, hf, ← h3]
    have : (cur.toList.take (J * 3) ++ news).length = (J + 1) * 3 := by rw [List.length_append, htl, hnl]; omega
    rw [← this]
    exact List.take_left
  · rw [← h4 i (by omega) hi2, ← Array.getElem?_toList]
    show (cur.toList.take (J * 3) ++ news ++ cur.toList.drop (J * 3 + 3))[i]? = _
    rw [List.getElem?_append_right (by rw [List.length_append, htl, hnl]; omega), List.getElem?_drop, List.length_append, htl, hnl, ← Array.getElem?_toList]
    rw [show J * 3 + 3 + (i - (J * 3 + 3)) = i by omega]
/-- The operation, for the walk. -/
theorem wpList_pass_put {ops : Array Oper} {rest : List Oper} {op : Oper} {a : Act} {Q : Exit → Act → World → Prop} {w : World} (hgd : op.guard = none) (s x0 : Operand)
    (ho : op.op = .call { callee := .builtin .append, args := #[s, x0], argTypes := #[67, 67] })
    {g c : Nat} {L : List Fw} {n : Int} {k : Nat} (h : PasR w g c L n k) (hk : k < L.length) (hd : ¬ (L.getD k fw0).d < n) (hs : a.eval s = .slice (some ⟨g, 0, none⟩) (stayF (L.take k) n).length c) (ad : Addr) (hx : a.eval x0 = .slice (some ad) 1 1)
    (hnews : ∀ j u, [Value.int .i64 (L.getD k fw0).d, .float .f64 (L.getD k fw0).x, .int .i64 (L.getD k fw0).c][j]? = some u → w.cell? (ad.add j) = some u)
    (hh : ∀ w', PasR w' g c L n (k + 1) → w.grownBy w' (some g) → wpList Try.prog ops Q rest (a.put op.dst (.slice (some ⟨g, 0, none⟩) (stayF (L.take (k + 1)) n).length c)) w') : wpList Try.prog ops Q (op :: rest) a w := by
  refine wpList_plain hgd fun K hK => ?_
  obtain ⟨w', hr, h2, h3⟩ := PasR.put op.type h hk hd ad hnews
  have goal := hK _ _ (hh w' h2 h3)
  unfold Oper.wp execOp
  simp only [ho, resolve, invoke, builtin, Sem.run_bind, Sem.run_pure, Result.andThen_ok, List.map_toArray, List.map_cons, List.map_nil, hs, hx, hr]
  exact goal

end Go.Proofs.Yteikihidblcljaa

/- A row of flows of the call's own, that holds no word: an append keeps it so. -/
import Derived.Test.YthddkfkgnkbpnaaCeC
namespace Go.Proofs.Ythddkfkgnkbpnaa
open Go.RowKit
set_option linter.unusedSimpArgs false
set_option linter.unusedVariables false

/-- No cell of the slice's own block is a word. -/
def NoU (w : World) (v : Value) : Prop := ∀ g, v.ownBlock = some g → ∀ o y, w.cell? ⟨g, o, none⟩ ≠ some (.int .u64 y)
def notU (u : Value) : Prop := ∀ y, u ≠ .int .u64 y
theorem noU_block {w : World} {g : Nat} {cs : Array Value} {t : TypeId} {fr : Nat × Nat} (hb : w.heap[g]? = some (.cells cs t fr)) (h : ∀ u ∈ cs.toList, notU u) : ∀ o y, w.cell? ⟨g, o, none⟩ ≠ some (.int .u64 y) := by
  intro o y hc
  rw [cell_of_row w g o cs t fr hb] at hc
  have hm : Value.int .u64 y ∈ cs := Array.mem_of_getElem? hc
  exact h _ (Array.mem_toList_iff.2 hm) y rfl
theorem block_noU {w : World} {g : Nat} {cs : Array Value} {t : TypeId} {fr : Nat × Nat} (hb : w.heap[g]? = some (.cells cs t fr)) (h : ∀ o y, w.cell? ⟨g, o, none⟩ ≠ some (.int .u64 y)) : ∀ u ∈ cs.toList, notU u := by
  intro u hu y e
  subst e
  obtain ⟨i, hi, he⟩ := List.getElem_of_mem hu
  refine h i y ?_
  rw [cell_of_row w g i cs t fr hb, ← Array.getElem?_toList, List.getElem?_eq_getElem hi, he]
theorem zero_notU (k : Nat) : ∀ u ∈ (Builtin.zeroCells #[Value.int .i64 0, .float .f64 0, .int .i64 0] k).toList, notU u := by
  intro u hu y e
  subst e
  unfold Builtin.zeroCells at hu
  simp only [Array.toList_map, List.mem_map] at hu
  obtain ⟨i, _, he⟩ := hu
  have h3 : i % 3 = 0 ∨ i % 3 = 1 ∨ i % 3 = 2 := by omega
  rcases h3 with h | h | h <;> simp [h] at he
theorem heap_grown (w : World) (cs : Array Value) (t : TypeId) : (w.drew.alloc (.cells cs t)).heap[w.heap.size]? = some (.cells cs t (0, 0)) := heap_alloc_new w.drew _
theorem append_clean (ty : TypeId) (B : Nat) (w : World) (v : Value) (n : Nat) (xs : List Value) (hown : w.ownsRow B 54 3 v n xs) (hc : NoU w v) (ad : Addr) (d : Int) (x : Nat) (c : Int)
    (hnews : ∀ j u, [Value.int .i64 d, .float .f64 x, .int .i64 c][j]? = some u → w.cell? (ad.add j) = some u) (hn : n ≤ 1000) (hB : B ≤ w.heap.size) :
    ∃ v' w', (Builtin.append_ #[45, 45] ty #[v, .slice (some ad) 1 1]).run Try.prog w = .ok v' w' ∧ w'.ownsRow B 54 3 v' (n + 1) (xs ++ [.int .i64 d, .float .f64 x, .int .i64 c]) ∧ w.grownBy w' v.ownBlock ∧ NoU w' v' ∧ (v'.ownBlock = v.ownBlock ∨ v'.ownBlock = some w.heap.size) := by
  obtain ⟨i0, hi, hz0, hz1, hz2⟩ := info_partsF
  have h1 : ∀ u ∈ [Value.int .i64 d, .float .f64 x, .int .i64 c], u.oneCell' = true := by intro u hu; simp at hu; rcases hu with rfl | rfl | rfl <;> rfl
  have hu1 : ∀ u ∈ [Value.int .i64 d, .float .f64 x, .int .i64 c], notU u := by
    intro u hu y
    simp at hu
    rcases hu with rfl | rfl | rfl <;> simp
  generalize hnw : [Value.int .i64 d, .float .f64 x, .int .i64 c] = news at *
  have hl : news.length = 1 * 3 := by rw [← hnw]; rfl
  obtain ⟨v', w', hr, o1, o2, _⟩ := run_append_own (P := Try.prog) w B 45 ty 54 i0 (.agg #[.int .i64 0, .float .f64 0, .int .i64 0]) 3 24 Try.underlying45 hi hz0 hz1 hz2 rfl (by decide) v n xs hown ad 1 1 news hl hnews h1 (by unfold maxLen; omega) (by omega) hB
  refine ⟨v', w', hr, o1, o2, ?_⟩
  have hl2 : news.length = 1 * i0.size := by rw [hz1]; exact hl
  have hzc : Value.cells (.agg #[.int .i64 0, .float .f64 0, .int .i64 0]) = #[Value.int .i64 0, .float .f64 0, .int .i64 0] := rfl
  have fresh : ∀ (cs : Array Value) (cap : Nat), (∀ u ∈ cs.toList, notU u) → v' = .slice (some ⟨w.heap.size, 0, none⟩) (n + 1) cap → w' = w.drew.alloc (.cells cs 54) → NoU w' v' ∧ (v'.ownBlock = v.ownBlock ∨ v'.ownBlock = some w.heap.size) := by
    rintro cs cap hcs rfl rfl
    refine ⟨fun g hg => ?_, Or.inr rfl⟩
    have : g = w.heap.size := by simpa [Value.ownBlock] using hg.symm
    subst this
    exact noU_block (heap_grown w cs _) hcs
  rcases hown.2 with ⟨rfl, hn0⟩ | ⟨g, cap, cur, rfl, hbg, hg, hnc, hcm, hcs, htake⟩
  · subst hn0
    have he := run_append_nil (P := Try.prog) w 45 ty 54 i0 _ Try.underlying45 hi hz0 ad 1 1 news hl2 hnews (by omega) (by omega) (by rw [hz2]; omega)
    rw [hr] at he
    injection he with e1 e2
    refine fresh _ _ ?_ e1 e2
    intro u hu
    simp only [Array.toList_append, List.mem_append] at hu
    rcases hu with hu | hu
    · exact hu1 u (by simpa using hu)
    · exact zero_notU _ u hu
  · have hcu := block_noU hg (hc g rfl)
    have hxs : ∀ u ∈ xs, notU u := fun u hu => by
      rw [← htake] at hu
      exact hcu u (List.mem_of_mem_take hu)
    by_cases hroom : n + 1 ≤ cap
    · have hfit : n * i0.size + news.length ≤ cur.size := by rw [hl2, hcs, hz1, ← Nat.add_mul]; exact Nat.mul_le_mul_right _ hroom
      have he := run_append_room (P := Try.prog) w 45 ty 54 i0 Try.underlying45 hi g n cap cur hg ad 1 1 news hl2 hnews h1 hroom hfit
      rw [hr] at he
      injection he with e1 e2
      subst e1 e2
      refine ⟨fun g' hg' => ?_, Or.inl rfl⟩
      have : g' = g := by simpa [Value.ownBlock] using hg'.symm
      subst this
      refine noU_block (setRow_heap w g' cur _ _ _ hg) fun u hu => ?_
      simp only [List.mem_append] at hu
      rcases hu with (hu | hu) | hu
      · exact hcu u (List.mem_of_mem_take hu)
      · exact hu1 u hu
      · exact hcu u (List.mem_of_mem_drop hu)
    · have holds : ∀ j u, xs[j]? = some u → w.cell? ((⟨g, 0, none⟩ : Addr).add j) = some u := hown.cells (g := g) rfl
      have he := run_append_grow (P := Try.prog) w 45 ty 54 i0 _ Try.underlying45 hi hz0 ⟨g, 0, none⟩ n cap xs (by rw [hz1]; exact hown.1) holds ad 1 1 news hl2 hnews (by omega) (by omega) (growslice_fits (by omega) (by rw [hz2]; omega))
      rw [hr] at he
      injection he with e1 e2
      refine fresh _ _ ?_ e1 e2
      intro u hu
      simp only [Array.toList_append, List.mem_append] at hu
      rcases hu with (hu | hu) | hu
      · exact hxs u (by simpa using hu)
      · exact hu1 u (by simpa using hu)
      · exact zero_notU _ u hu
/-- The operation, for the walk. -/
theorem wpList_append_clean {ops : Array Oper} {rest : List Oper} {op : Oper} {a : Act} {Q : Exit → Act → World → Prop} {w : World} (hgd : op.guard = none) (s x0 : Operand)
    (ho : op.op = .call { callee := .builtin .append, args := #[s, x0], argTypes := #[45, 45] })
    (B : Nat) (v : Value) (n : Nat) (xs : List Value) (hs : a.eval s = v) (hown : w.ownsRow B 54 3 v n xs) (hc : NoU w v) (ad : Addr) (d : Int) (x : Nat) (c : Int) (hx : a.eval x0 = .slice (some ad) 1 1)
    (hnews : ∀ j u, [Value.int .i64 d, .float .f64 x, .int .i64 c][j]? = some u → w.cell? (ad.add j) = some u) (hn : n ≤ 1000) (hB : B ≤ w.heap.size)
    (h : ∀ v' w', w'.ownsRow B 54 3 v' (n + 1) (xs ++ [.int .i64 d, .float .f64 x, .int .i64 c]) → w.grownBy w' v.ownBlock → NoU w' v' → (v'.ownBlock = v.ownBlock ∨ v'.ownBlock = some w.heap.size) → wpList Try.prog ops Q rest (a.put op.dst v') w') : wpList Try.prog ops Q (op :: rest) a w := by
  refine wpList_plain hgd fun K hK => ?_
  obtain ⟨v', w', hr, h2, h3, h4, h5⟩ := append_clean op.type B w v n xs hown hc ad d x c hnews hn hB
  have goal := hK _ _ (h v' w' h2 h3 h4 h5)
  unfold Oper.wp execOp
  simp only [ho, resolve, invoke, builtin, Sem.run_bind, Sem.run_pure, Result.andThen_ok, List.map_toArray, List.map_cons, List.map_nil, hs, hx, hr]
  exact goal

end Go.Proofs.Ythddkfkgnkbpnaa

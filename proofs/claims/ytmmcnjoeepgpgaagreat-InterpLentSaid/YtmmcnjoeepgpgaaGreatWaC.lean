/- What InterpLent needs: lists of the call's own, written later. -/
import Derived.Test.YtmmcnjoeepgpgaaGreatVhC
import Derived.Laws.AppendOwnNone
namespace Go.Proofs.YtmmcnjoeepgpgaaGreat
open Go.RowKit
set_option linter.unusedSimpArgs false
set_option linter.unusedVariables false

/-- Nothing but block g has changed, and nothing at all if there is nothing to write. -/
def OnlyN (n g : Nat) (w w' : World) : Prop := (n = 0 → w' = w) ∧ (0 < n → Only g w w')
theorem OnlyN.refl (n g : Nat) (w : World) : OnlyN n g w w := ⟨fun _ => rfl, fun _ => Only.refl g w⟩
theorem Fls.onlyN {w w' : World} {a : Option Addr} {l : List Nat} {n g : Nat} (h : Fls w a l) (ho : OnlyN n g w w') (hg : 0 < n → ∀ b o v, a = some ⟨b, o, v⟩ → b ≠ g) : Fls w' a l := by
  rcases Nat.eq_zero_or_pos n with h0 | h0
  · rw [ho.1 h0]; exact h
  · refine ⟨h.nil, fun b o v e i hi => ?_, h.wf, h.len⟩
    obtain ⟨h1, h2⟩ := h.cell b o v e i hi
    refine ⟨h1, ?_⟩
    have hb := (ho.2 h0).block b (World.block_lt_of_cell? _ _ h2) (hg h0 b o v e)
    rw [World.cell?_of_block (w := w) (w' := w') (a := ⟨b, o + i, none⟩) hb, h2]
theorem below_onlyN {B n g : Nat} {w0 w w' : World} (h : Below B w0 w) (ho : OnlyN n g w w') (hg : 0 < n → B ≤ g) (hB : B ≤ w.heap.size) : Below B w0 w' := by
  rcases Nat.eq_zero_or_pos n with h0 | h0
  · rw [ho.1 h0]; exact h
  · exact (ho.2 h0).below h (hg h0) hB
/-- A list that is not empty lies in a block between two. -/
def OwnRow (a : Option Addr) (g n lo hi : Nat) (w : World) : Prop := 0 < n → a = some ⟨g, 0, none⟩ ∧ lo ≤ g ∧ g < hi ∧ ∃ F, w.rowIs g 27 n F
theorem OwnRow.below {a : Option Addr} {g n lo hi : Nat} {w w' : World} (h : OwnRow a g n lo hi w) (hb : Below w.heap.size w w') (hh : hi ≤ w.heap.size) : OwnRow a g n lo hi w' := fun h0 => by
  obtain ⟨x1, x2, x3, F, x4⟩ := h h0
  exact ⟨x1, x2, x3, F, x4.of_block (hb.block g (by omega))⟩
/-- It returns a list in a block of its own, and what is wrong. -/
def RetG (L : List Nat × Int) (w : World) (e : Ending) (w' : World) : Prop :=
  ∃ (a : Option Addr) (c g : Nat), e = .returned (.tuple #[.slice a L.1.length c, .int .i64 L.2]) ∧ Hd (Fls w' a L.1) ∧ Hd (Below w.heap.size w w') ∧ Hd (OwnRow a g L.1.length w.heap.size w'.heap.size w') ∧ L.1.length ≤ 1000000 ∧ Hd (∀ b o v, a = some ⟨b, o, v⟩ → w.heap.size ≤ b ∧ b < w'.heap.size)
theorem retG_nil {w w' : World} {E : Int} (hb : Below w.heap.size w w') : RetG ([], E) w (.returned (.tuple #[.slice none 0 0, .int .i64 E])) w' :=
  ⟨none, 0, 0, rfl, ⟨fls_none _⟩, ⟨hb⟩, ⟨fun h => absurd h (by simp)⟩, by simp, ⟨fun b o v e => by cases e⟩⟩
theorem retG_row {w w' : World} {b n : Nat} {f : Nat → Nat} {E : Int} (hf : FilledF w w' b n f) (hn : n ≤ 1000000) : RetG (rowL n f, E) w (.returned (.tuple #[.slice (some ⟨b, 0, none⟩) n n, .int .i64 E])) w' := by
  have hlt : b < w'.heap.size := hf.row.lt
  have hl := rowL_len n f
  refine ⟨some ⟨b, 0, none⟩, n, b, by rw [hl], ⟨hf.fls hn⟩, ⟨hf.below⟩, ⟨fun _ => ⟨rfl, hf.own, hlt, _, by rw [hl]; exact hf.row⟩⟩, by rw [hl]; exact hn, ⟨fun b' o v e => by cases e; exact ⟨hf.own, hlt⟩⟩⟩
theorem slopesG_any (kind : Int) (ax : Option Addr) (X : List Int) (cx : Nat) (ay : Option Addr) (Y : List Nat) (cy : Nat) (w : World) (ht : Tbl w ax X ay Y) :
    Calls Tryz.prog 11 #[.agg #[.int .i64 kind, .slice ax X.length cx, .slice ay Y.length cy]] w (RetG (slpT kind X Y) w) := by
  by_cases hc : chkT kind X Y = 0
  · have hm := (chk_ok hc ht.fy.wf).1.max
    refine (slopesX_ok kind ax X cx ay Y cy w ht hc).mono fun e w' h => ?_
    obtain ⟨b, rfl, hf⟩ := h
    unfold slpT
    rw [if_pos hc]
    exact retG_row hf (by omega)
  · refine (slopesX_bad kind ax X cx ay Y cy w ht hc).mono fun e w' h => ?_
    obtain ⟨rfl, hb⟩ := h
    unfold slpT
    rw [if_neg hc]
    exact retG_nil hb
theorem pointsG_any (kind : Int) (ax : Option Addr) (X : List Int) (cx : Nat) (ay : Option Addr) (Y : List Nat) (cy : Nat) (k : Int) (w : World) (ht : Tbl w ax X ay Y) :
    Calls Tryz.prog 13 #[.agg #[.int .i64 kind, .slice ax X.length cx, .slice ay Y.length cy], .int .i64 k] w (RetG (ptsT kind X Y k) w) := by
  by_cases hc : chkT kind X Y = 0
  · by_cases hk : k < 0 ∨ (X.length : Int) - 1 ≤ k
    · refine (pointsX_out kind ax X cx ay Y cy k w ht hc hk).mono fun e w' h => ?_
      obtain ⟨rfl, hb⟩ := h
      unfold ptsT
      rw [if_pos hc, if_pos hk]
      exact retG_nil hb
    · obtain ⟨j, rfl⟩ := Int.eq_ofNat_of_zero_le (show 0 ≤ k by omega)
      refine (pointsX_ok kind ax X cx ay Y cy j w ht hc (by omega)).mono fun e w' h => ?_
      obtain ⟨b, rfl, hf⟩ := h
      unfold ptsT
      rw [if_pos hc, if_neg hk]
      exact retG_row hf (by decide)
  · refine (pointsX_bad kind ax X cx ay Y cy k w ht hc).mono fun e w' h => ?_
    obtain ⟨rfl, hb⟩ := h
    unfold ptsT
    rw [if_neg hc]
    exact retG_nil hb

/-- An append of a whole list of one-cell elements onto a row of the call's own; a nil list, too. -/
theorem wpList_app_list {P : Program} {w : World} {ops : Array Oper} {rest : List Oper} {o : Oper} {a : Act} {Q : Exit → Act → World → Prop} (hgd : o.guard = none) (s x : Operand) (t : TypeId)
    (ho : o.op = .call { callee := .builtin .append, args := #[s, x], argTypes := #[t, t] })
    (base : Nat) (e : TypeId) (i : TypeInfo) (z : Value) (ht : P.underlying t = some (.slice e)) (hi : P.info? e = some i) (hz : i.zero = some z)
    (hsize : i.size = 1) (hby : i.bytes = 8) (hzs : z.cells.size = 1)
    (v : Value) (n : Nat) (xs : List Value) (hs : a.eval s = v) (hown : w.ownsRow base e 1 v n xs)
    (ad : Option Addr) (c : Nat) (news : List Value) (hx : a.eval x = .slice ad news.length c) (hnil : ad = none → news = [] ∧ c = 0) (hnews : ∀ p, ad = some p → ∀ j u, news[j]? = some u → w.cell? (p.add j) = some u) (h1 : ∀ u ∈ news, u.oneCell' = true)
    (h63 : n + news.length ≤ 1000000) (hbase : base ≤ w.heap.size)
    (h : ∀ v' w', w'.ownsRow base e 1 v' (n + news.length) (xs ++ news) → Below base w w' → wpList P ops Q rest (a.put o.dst v') w') : wpList P ops Q (o :: rest) a w := by
  cases ad with
  | none =>
    obtain ⟨rfl, rfl⟩ := hnil rfl
    refine wpList_append_own_none hgd s x t ho base e i 1 ht hi v n xs hs hown hx ?_
    exact h v w (by simpa using hown) (Below.refl _ _)
  | some p =>
    refine wpList_append_own w hgd s x t ho base e i z 1 8 ht hi hz hsize hby hzs (by decide) v n xs hs hown p news.length c news hx (by omega) (hnews p rfl) h1 (by unfold maxLen; omega) (by omega) hbase ?_
    intro v' w' h2 h3 _
    exact h v' w' h2 ((Below.refl _ _).grown h3 hbase fun k hk => (hown.lt k hk).1)

end Go.Proofs.YtmmcnjoeepgpgaaGreat

/- Put together out of several texts: Yn Yo Ys. -/
import Derived.Test.YteikihidblcljaaM15
import Derived.Test.YteikihidblcljaaM3
import Derived.Test.YteikihidblcljaaM7
import Derived.Test.YteikihidblcljaaM11
import Derived.Deep.RegionHeld3

/- The walk of the reference's Of (tenorref23): pairs, their rates as words. -/
namespace Go.Proofs.Yteikihidblcljaa
open Go.RowKit
set_option linter.unusedSimpArgs false
set_option linter.unusedVariables false

/-- A slice of the reference's pairs. -/
structure PrsU (w : World) (ad : Option Addr) (L : List Pr) : Prop where
  cell : ∀ k, k < L.length → ∃ b o, ad = some ⟨b, o, none⟩ ∧ w.cell? ⟨b, o + k * 3, none⟩ = some (.int .i64 (L.getD k pr0).a) ∧ w.cell? ⟨b, o + k * 3 + 1, none⟩ = some (.int .i64 (L.getD k pr0).b) ∧ w.cell? ⟨b, o + k * 3 + 2, none⟩ = some (.int .u64 ((L.getD k pr0).x : Nat))
  wf : ∀ k, F64 (L.getD k pr0).x
  rg : ∀ k, (-9223372036854775808 ≤ (L.getD k pr0).a ∧ (L.getD k pr0).a ≤ 9223372036854775807) ∧ (-9223372036854775808 ≤ (L.getD k pr0).b ∧ (L.getD k pr0).b ≤ 9223372036854775807)
  len : L.length ≤ 9223372036854775807
theorem PrsU.below {w w' : World} {ad : Option Addr} {L : List Pr} (h : PrsU w ad L) (hb : Below w.heap.size w w') : PrsU w' ad L :=
  ⟨fun k hk => by
    obtain ⟨b, o, h1, h2, h3, h4⟩ := h.cell k hk
    have hl := World.block_lt_of_cell? _ _ h2
    exact ⟨b, o, h1, (hb.cell (p := ⟨b, o + k * 3, none⟩) hl).trans h2, (hb.cell (p := ⟨b, o + k * 3 + 1, none⟩) hl).trans h3, (hb.cell (p := ⟨b, o + k * 3 + 2, none⟩) hl).trans h4⟩, h.wf, h.rg, h.len⟩
theorem PrsU.nil (w : World) (ad : Option Addr) : PrsU w ad [] := ⟨fun k hk => by simp at hk, fun k => ⟨by simp [pr0]⟩, fun k => by simp [pr0], by simp⟩
def prU (l : List Pr) : List Value := l.flatMap fun p => [.int .i64 p.a, .int .i64 p.b, .int .u64 (p.x : Nat)]
theorem prU_snoc (l : List Pr) (p : Pr) : prU (l ++ [p]) = prU l ++ [.int .i64 p.a, .int .i64 p.b, .int .u64 (p.x : Nat)] := by
  unfold prU; rw [List.flatMap_append]; rfl
theorem prU_get (l : List Pr) (j : Nat) (h : j < l.length) : (prU l)[j * 3]? = some (.int .i64 (l.getD j pr0).a) ∧ (prU l)[j * 3 + 1]? = some (.int .i64 (l.getD j pr0).b) ∧ (prU l)[j * 3 + 2]? = some (.int .u64 ((l.getD j pr0).x : Nat)) := by
  unfold prU
  induction l generalizing j with
  | nil => simp at h
  | cons s r ih =>
    cases j with
    | zero => exact ⟨rfl, rfl, rfl⟩
    | succ j =>
      have := ih j (by simpa using h)
      rw [show (j + 1) * 3 = j * 3 + 1 + 1 + 1 by omega]
      simp only [List.flatMap_cons, List.cons_append, List.nil_append, List.getElem?_cons_succ, List.getD_cons_succ]
      exact this
/-- It returns the reference's pairs. -/
def OfPr (l : List Pr) (w : World) (e : Ending) (w' : World) : Prop := ∃ a c, e = .returned (.slice a l.length c) ∧ PrsU w' a l ∧ Below w.heap.size w w'

end Go.Proofs.Yteikihidblcljaa

/- The walk of the reference's way (tenorref23). -/
namespace Go.Proofs.Yteikihidblcljaa
open Go.RowKit
set_option linter.unusedSimpArgs false
set_option linter.unusedVariables false

/-- A block that holds a real. -/
def NBox (w : World) (b : Nat) (s : Bool) (a : Option Addr) (n c : Nat) (e : Int) : Prop := w.heap[b]? = some (.cells #[.bool s, .slice a n c, .int .i64 e] 35 (0, 0))
theorem NBox.cell {w : World} {b : Nat} {s : Bool} {a : Option Addr} {n c : Nat} {e : Int} (h : NBox w b s a n c e) :
    w.cell? ⟨b, 0, none⟩ = some (.bool s) ∧ w.cell? ⟨b, 1, none⟩ = some (.slice a n c) ∧ w.cell? ⟨b, 2, none⟩ = some (.int .i64 e) := by
  unfold NBox at h
  refine ⟨?_, ?_, ?_⟩ <;> simp [World.cell?, h]
theorem NBox.frozen {w : World} {b : Nat} {s : Bool} {a : Option Addr} {n c : Nat} {e : Int} (h : NBox w b s a n c e) (o : Nat) : w.frozen? ⟨b, o, none⟩ = false := by
  unfold NBox at h
  simp [World.frozen?, h]
theorem NBox.lt {w : World} {b : Nat} {s : Bool} {a : Option Addr} {n c : Nat} {e : Int} (h : NBox w b s a n c e) : b < w.heap.size := by
  unfold NBox at h
  exact (Array.getElem?_eq_some_iff.1 h).1
theorem NBox.belowB {B : Nat} {w w' : World} {b : Nat} {s : Bool} {a : Option Addr} {n c : Nat} {e : Int} (h : NBox w b s a n c e) (hb : Below B w w') (hB : b < B) : NBox w' b s a n c e := (hb.block b hB).trans h
theorem NBox.below {w w' : World} {b : Nat} {s : Bool} {a : Option Addr} {n c : Nat} {e : Int} (h : NBox w b s a n c e) (hb : Below w.heap.size w w') : NBox w' b s a n c e := h.belowB hb h.lt
theorem NBox.drew {w : World} {b : Nat} {s : Bool} {a : Option Addr} {n c : Nat} {e : Int} (h : NBox w b s a n c e) : NBox w.drew b s a n c e := h
theorem nbox1 (w : World) (s : Bool) (a : Option Addr) (n c : Nat) (e : Int) : ∃ W, (w.alloc (.cells #[.bool s, .slice a n c, .int .i64 e] 35)) = W ∧ NBox W w.heap.size s a n c e ∧ Below w.heap.size w W := by
  refine ⟨_, rfl, ?_, (Below.refl _ _).alloc (Nat.le_refl _) _⟩
  unfold NBox World.alloc; simp [Array.getElem?_push]
theorem nbox2 (w : World) (s : Bool) (a : Option Addr) (n c : Nat) (e : Int) (s' : Bool) (a' : Option Addr) (n' c' : Nat) (e' : Int) : ∃ W, ((w.alloc (.cells #[.bool s, .slice a n c, .int .i64 e] 35)).alloc (.cells #[.bool s', .slice a' n' c', .int .i64 e'] 35)) = W ∧ NBox W w.heap.size s a n c e ∧ NBox W (w.heap.size + 1) s' a' n' c' e' ∧ Below w.heap.size w W := by
  refine ⟨_, rfl, ?_, ?_, ((Below.refl _ _).alloc (Nat.le_refl _) _).alloc (by simp) _⟩
  · unfold NBox World.alloc; (try simp [Array.getElem?_push, Array.getElem_push]); all_goals (try omega)
  · unfold NBox World.alloc; simp [Array.getElem?_push, Array.getElem_push]
theorem NBox.no {w : World} {b : Nat} {s : Bool} {a : Option Addr} {n c : Nat} {e : Int} (h : NBox w b s a n c e) (o : Nat) (y : Int) : w.cell? ⟨b, o, none⟩ ≠ some (.int .u64 y) := by
  intro hc
  unfold NBox at h
  simp only [World.cell?, h, Option.bind_some] at hc
  match o, hc with
  | 0, hc => simp at hc
  | 1, hc => simp at hc
  | 2, hc => simp at hc
  | o + 3, hc => simp at hc
theorem Dgs.apartN {w w' : World} {a : Option Addr} {x b : Nat} (h : Dgs w a x) (hn : ∀ (o : Nat) (y : Int), w.cell? ⟨b, o, none⟩ ≠ Option.some (Value.int .u64 y)) (ho : Only b w w') : Dgs w' a x :=
  ⟨h.nil, fun b1 o v e i hi => ⟨(h.cell b1 o v e i hi).1, by
    have hc := (h.cell b1 o v e i hi).2
    have hne : b1 ≠ b := fun e1 => hn _ _ (by rw [← e1]; exact hc)
    have := ho.block b1 (World.block_lt_of_cell? _ _ hc) hne
    rw [World.cell?_of_block (w := w) (w' := w') (a := ⟨b1, o + i, none⟩) this, hc]⟩⟩
theorem NBox.only {w w' : World} {b c' : Nat} {s : Bool} {a : Option Addr} {n c : Nat} {e : Int} (h : NBox w b s a n c e) (ho : Only c' w w') (hc : b ≠ c') : NBox w' b s a n c e := (ho.block b h.lt hc).trans h
theorem only3 (b : Nat) (w : World) (v0 v1 v2 : Value) : Only b w (((w.setCell ⟨b, 0, none⟩ v0).setCell ⟨b, 1, none⟩ v1).setCell ⟨b, 2, none⟩ v2) := (((Only.refl b w).setCell 0 v0).setCell 1 v1).setCell 2 v2
/-- Digits stay when a box is written. -/
theorem Dgs.set3 {w : World} {a' : Option Addr} {x b : Nat} {s : Bool} {a : Option Addr} {n c : Nat} {e : Int} (d : Dgs w a' x) (h : NBox w b s a n c e) (v0 v1 v2 : Value) : Dgs (((w.setCell ⟨b, 0, none⟩ v0).setCell ⟨b, 1, none⟩ v1).setCell ⟨b, 2, none⟩ v2) a' x :=
  d.apartN h.no (only3 b w v0 v1 v2)
theorem Dgs.set6 {w : World} {a' : Option Addr} {x b b' : Nat} {s : Bool} {a : Option Addr} {n c : Nat} {e : Int} {s' : Bool} {a2 : Option Addr} {n' c' : Nat} {e' : Int} (d : Dgs w a' x) (h : NBox w b s a n c e) (h' : NBox w b' s' a2 n' c' e') (hne : b' ≠ b) (v0 v1 v2 u0 u1 u2 : Value) :
    Dgs ((((((w.setCell ⟨b, 0, none⟩ v0).setCell ⟨b, 1, none⟩ v1).setCell ⟨b, 2, none⟩ v2).setCell ⟨b', 0, none⟩ u0).setCell ⟨b', 1, none⟩ u1).setCell ⟨b', 2, none⟩ u2) a' x :=
  (d.set3 h v0 v1 v2).set3 (h'.only (only3 b w v0 v1 v2) hne) u0 u1 u2
/-- It returns the products along a way, if there is one. -/
def RWayRet (L : List Pr) (f a b : Int) (w : World) (e : Ending) (w' : World) : Prop :=
  ((∃ l a1 c1 a2 c2, Wk L f a b l ∧ e = .returned (.tuple #[.agg #[.bool false, .slice a1 (nd (wM false l)) c1, .int .i64 (wE false l)], .agg #[.bool false, .slice a2 (nd (wM true l)) c2, .int .i64 (wE true l)], .bool true]) ∧ Dgs w' a1 (wM false l) ∧ Dgs w' a2 (wM true l)) ∨
    ((∀ l, ¬ Wk L f a b l) ∧ e = .returned (.tuple #[.agg #[.bool false, .slice none 0 0, .int .i64 0], .agg #[.bool false, .slice none 0 0, .int .i64 0], .bool false]))) ∧ Below w.heap.size w w'

end Go.Proofs.Yteikihidblcljaa

/- Pairs and flows that came in, opened. -/
namespace Go.Proofs.Yteikihidblcljaa
open Go.ChangeShapes Go.WideShapes Go.ChangeAt Go.RowKit

section
variable {H : Type} {enc : TypeId × Value → H} {P : Program} {w : World} {spare : Nat → Bool} {held : Bool}
theorem open_prs {t e : TypeId} {f0 f1 f2 : Field} {a : Option Addr} {len cap : Nat} {d : DataW H} {ps : List MemPlace}
    (ht : P.underlying t = some (.slice e)) (he : P.underlying e = some (.struct #[f0, f1, f2])) (hone : Go.Deep.oneCellFields P #[f0, f1, f2] = true) (hC : P.cellsOf e = 3)
    (h0 : P.underlying f0.type = some (.int .i64)) (h1 : P.underlying f1.type = some (.int .i64)) (h2 : P.underlying f2.type = some (.float .f64)) (h : DataW.Trod enc P w 0 spare held t (.slice a len cap) d ps) :
    ∃ l : List Pr, len = l.length ∧ Prs w a l ∧ Room a len cap := by
  obtain ⟨hr, _, V, hV, hf⟩ := open_rows ht he hone hC h
  have key : ∀ i, i < len → ∃ p : Pr, V i 0 = .int .i64 p.a ∧ V i 1 = .int .i64 p.b ∧ V i 2 = .float .f64 p.x ∧ F64 p.x ∧ (-9223372036854775808 ≤ p.a ∧ p.a ≤ 9223372036854775807) ∧ (-9223372036854775808 ≤ p.b ∧ p.b ≤ 9223372036854775807) := fun i hi => by
    obtain ⟨n0, y0, t0⟩ := hf i hi 0 f0 rfl
    obtain ⟨n1, y1, t1⟩ := hf i hi 1 f1 rfl
    obtain ⟨n2, y2, t2⟩ := hf i hi 2 f2 rfl
    obtain ⟨a0, e0, r0, r0'⟩ := trod_i64 h0 t0
    obtain ⟨a1, e1, r1, r1'⟩ := trod_i64 h1 t1
    obtain ⟨a2, e2, r2⟩ := trod_float h2 t2
    exact ⟨⟨a0, a1, a2⟩, e0, e1, e2, r2, ⟨r0, r0'⟩, ⟨r1, r1'⟩⟩
  haveI : Inhabited Pr := ⟨pr0⟩
  obtain ⟨F, hF⟩ := Go.Deep.choose_lt key
  have hg : ∀ i, i < len → ((List.range len).map F).getD i pr0 = F i := fun i hi => by simp [List.getD_eq_getElem?_getD, hi]
  have hg' : ∀ i, ¬ i < len → ((List.range len).map F).getD i pr0 = pr0 := fun i hi => by
    rw [List.getD_eq_getElem?_getD, List.getElem?_eq_none (by simp; omega)]; rfl
  refine ⟨(List.range len).map F, by simp, ⟨fun k hk => ?_, fun k => ?_, fun k => ?_, ?_⟩, hr⟩
  · simp at hk
    rw [hg k hk]
    obtain ⟨b, o, h1, h2⟩ := hV.addr (by omega) (show 0 < (#[f0, f1, f2] : Array Field).size by simp)
    have s : (#[f0, f1, f2] : Array Field).size = 3 := rfl
    rw [s] at h2
    have c0 := h2 k 0 hk (by decide)
    have c1 := h2 k 1 hk (by decide)
    have c2 := h2 k 2 hk (by decide)
    rw [(hF k hk).1] at c0
    rw [(hF k hk).2.1] at c1
    rw [(hF k hk).2.2.1] at c2
    exact ⟨b, o, h1, c0, c1, c2⟩
  · by_cases hk : k < len
    · rw [hg k hk]; exact (hF k hk).2.2.2.1
    · rw [hg' k hk]; exact ⟨by decide⟩
  · by_cases hk : k < len
    · rw [hg k hk]; exact (hF k hk).2.2.2.2
    · rw [hg' k hk]; simp [pr0]
  · simp; have := hr.le; have := hr.max; omega
theorem open_flws {t e : TypeId} {f0 f1 f2 : Field} {a : Option Addr} {len cap : Nat} {d : DataW H} {ps : List MemPlace}
    (ht : P.underlying t = some (.slice e)) (he : P.underlying e = some (.struct #[f0, f1, f2])) (hone : Go.Deep.oneCellFields P #[f0, f1, f2] = true) (hC : P.cellsOf e = 3)
    (h0 : P.underlying f0.type = some (.int .i64)) (h1 : P.underlying f1.type = some (.float .f64)) (h2 : P.underlying f2.type = some (.int .i64)) (h : DataW.Trod enc P w 0 spare held t (.slice a len cap) d ps) :
    ∃ l : List Fw, len = l.length ∧ Flws w a l ∧ Room a len cap := by
  obtain ⟨hr, _, V, hV, hf⟩ := open_rows ht he hone hC h
  have key : ∀ i, i < len → ∃ p : Fw, V i 0 = .int .i64 p.d ∧ V i 1 = .float .f64 p.x ∧ V i 2 = .int .i64 p.c ∧ F64 p.x ∧ (-9223372036854775808 ≤ p.d ∧ p.d ≤ 9223372036854775807) ∧ (-9223372036854775808 ≤ p.c ∧ p.c ≤ 9223372036854775807) := fun i hi => by
    obtain ⟨n0, y0, t0⟩ := hf i hi 0 f0 rfl
    obtain ⟨n1, y1, t1⟩ := hf i hi 1 f1 rfl
    obtain ⟨n2, y2, t2⟩ := hf i hi 2 f2 rfl
    obtain ⟨a0, e0, r0, r0'⟩ := trod_i64 h0 t0
    obtain ⟨a1, e1, r1⟩ := trod_float h1 t1
    obtain ⟨a2, e2, r2, r2'⟩ := trod_i64 h2 t2
    exact ⟨⟨a0, a1, a2⟩, e0, e1, e2, r1, ⟨r0, r0'⟩, ⟨r2, r2'⟩⟩
  haveI : Inhabited Fw := ⟨fw0⟩
  obtain ⟨F, hF⟩ := Go.Deep.choose_lt key
  have hg : ∀ i, i < len → ((List.range len).map F).getD i fw0 = F i := fun i hi => by simp [List.getD_eq_getElem?_getD, hi]
  have hg' : ∀ i, ¬ i < len → ((List.range len).map F).getD i fw0 = fw0 := fun i hi => by
    rw [List.getD_eq_getElem?_getD, List.getElem?_eq_none (by simp; omega)]; rfl
  refine ⟨(List.range len).map F, by simp, ⟨fun k hk => ?_, fun k => ?_, fun k => ?_, ?_⟩, hr⟩
  · simp at hk
    rw [hg k hk]
    obtain ⟨b, o, h1, h2⟩ := hV.addr (by omega) (show 0 < (#[f0, f1, f2] : Array Field).size by simp)
    have s : (#[f0, f1, f2] : Array Field).size = 3 := rfl
    rw [s] at h2
    have c0 := h2 k 0 hk (by decide)
    have c1 := h2 k 1 hk (by decide)
    have c2 := h2 k 2 hk (by decide)
    rw [(hF k hk).1] at c0
    rw [(hF k hk).2.1] at c1
    rw [(hF k hk).2.2.1] at c2
    exact ⟨b, o, h1, c0, c1, c2⟩
  · by_cases hk : k < len
    · rw [hg k hk]; exact (hF k hk).2.2.2.1
    · rw [hg' k hk]; exact ⟨by decide⟩
  · by_cases hk : k < len
    · rw [hg k hk]; exact (hF k hk).2.2.2.2
    · rw [hg' k hk]; simp [fw0]
  · simp; have := hr.le; have := hr.max; omega
end

end Go.Proofs.Yteikihidblcljaa

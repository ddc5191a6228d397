/- Put together out of several texts: Yn Yo Ys. -/
import Derived.Test.YteikihidblcljaaGreatM15
import Derived.Test.YteikihidblcljaaGreatM3
import Derived.Test.YteikihidblcljaaGreatM7
import Derived.Test.YteikihidblcljaaGreatM11
import Derived.Deep.RegionHeld3

/- The walk of the reference's Of (tenorref23): pairs, their rates as words. -/
namespace Go.Proofs.YteikihidblcljaaGreat
open Go.RowKit
set_option linter.unusedSimpArgs false
set_option linter.unusedVariables false

/-- A slice of the reference's pairs. -/
structure PrsU (w : World) (ad : Option Addr) (L : List Pr) : Prop where
  cell : ∀ k, k < L.length → ∃ b o, ad = some ⟨b, o, none⟩ ∧ w.cell? ⟨b, o + k * 3, none⟩ = some (.int .i64 (L.getD k pr0).a) ∧ w.cell? ⟨b, o + k * 3 + 1, none⟩ = some (.int .i64 (L.getD k pr0).b) ∧ w.cell? ⟨b, o + k * 3 + 2, none⟩ = some (.int .u64 ((L.getD k pr0).x : Nat))
  wf : ∀ k, F64 (L.getD k pr0).x
  rg : ∀ k, (-9223372036854775808 ≤ (L.getD k pr0).a ∧ (L.getD k pr0).a ≤ 9223372036854775807) ∧ (-9223372036854775808 ≤ (L.getD k pr0).b ∧ (L.getD k pr0).b ≤ 9223372036854775807)
  len : L.length ≤ 9223372036854775807
theorem PrsU.below {w w' : World} {ad : Option Addr} {L : List Pr} (h : PrsU w ad L) (hb : Below w.heap.size w w') : PrsU w' ad L :=
  ⟨fun k hk => by
    obtain ⟨b, o, h1, h2, h3, h4⟩ := h.cell k hk
    have hl := World.block_lt_of_cell? _ _ h2
    exact ⟨b, o, h1, (hb.cell (p := ⟨b, o + k * 3, none⟩) hl).trans h2, (hb.cell (p := ⟨b, o + k * 3 + 1, none⟩) hl).trans h3, (hb.cell (p := ⟨b, o + k * 3 + 2, none⟩) hl).trans h4⟩, h.wf, h.rg, h.len⟩
theorem PrsU.nil (w : World) (ad : Option Addr) : PrsU w ad [] := ⟨fun k hk => by simp at hk, fun k => ⟨by simp [pr0]⟩, fun k => by simp [pr0], by simp⟩
def prU (l : List Pr) : List Value := l.flatMap fun p => [.int .i64 p.a, .int .i64 p.b, .int .u64 (p.x : Nat)]
theorem prU_snoc (l : List Pr) (p : Pr) : prU (l ++ [p]) = prU l ++ [.int .i64 p.a, .int .i64 p.b, .int .u64 (p.x : Nat)] := by
  unfold prU; rw [List.flatMap_append]; rfl
theorem prU_get (l : List Pr) (j : Nat) (h : j < l.length) : (prU l)[j * 3]? = some (.int .i64 (l.getD j pr0).a) ∧ (prU l)[j * 3 + 1]? = some (.int .i64 (l.getD j pr0).b) ∧ (prU l)[j * 3 + 2]? = some (.int .u64 ((l.getD j pr0).x : Nat)) := by
  unfold prU
  induction l generalizing j with
  | nil => simp at h
  | cons s r ih =>
    cases j with
    | zero => exact ⟨rfl, rfl, rfl⟩
    | succ j =>
      have := ih j (by simpa using h)
      rw [show (j + 1) * 3 = j * 3 + 1 + 1 + 1 by omega]
      simp only [List.flatMap_cons, List.cons_append, List.nil_append, List.getElem?_cons_succ, List.getD_cons_succ]
      exact this
theorem info_pairU : (Tryz.prog.info? 163).map (fun i => (i.zero, i.size, i.bytes)) = some (some (.agg #[.int .i64 0, .int .i64 0, .int .u64 0]), 3, 24) := by kernel_rfl
theorem own_prsU {w : World} {base n c : Nat} {a : Option Addr} {l : List Pr} (h : w.ownsRow base 163 3 (.slice a n c) n (prU l)) (hn : l.length = n) (hw : ∀ k, F64 (l.getD k pr0).x) (hr : ∀ k, (-9223372036854775808 ≤ (l.getD k pr0).a ∧ (l.getD k pr0).a ≤ 9223372036854775807) ∧ (-9223372036854775808 ≤ (l.getD k pr0).b ∧ (l.getD k pr0).b ≤ 9223372036854775807)) (hl : l.length ≤ 9223372036854775807) : PrsU w a l := by
  rcases h.2 with ⟨e, e2⟩ | ⟨g, cap, cur, e, _⟩
  · have : l = [] := List.length_eq_zero_iff.1 (by omega)
    subst this
    exact PrsU.nil _ _
  · have ea : a = some ⟨g, 0, none⟩ := by simp at e; exact e.1
    subst ea
    refine ⟨fun k hk => ⟨g, 0, rfl, ?_⟩, hw, hr, hl⟩
    obtain ⟨c1, c2, c3⟩ := prU_get l k hk
    have ha : ∀ i, (⟨g, 0, none⟩ : Addr).add i = ⟨g, 0 + i, none⟩ := fun i => by by_cases h0 : i = 0 <;> simp [Addr.add, h0]
    have k1 := h.cells rfl _ _ c1
    have k2 := h.cells rfl _ _ c2
    have k3 := h.cells rfl _ _ c3
    rw [ha] at k1 k2 k3
    exact ⟨k1, k2, k3⟩
/-- It returns the reference's pairs. -/
def OfPr (l : List Pr) (w : World) (e : Ending) (w' : World) : Prop := ∃ a c, e = .returned (.slice a l.length c) ∧ PrsU w' a l ∧ Below w.heap.size w w'

theorem ofp_step {w wd w1 : World} {o : Obj} {k c g cap : Nat} {a : Option Addr} {xs ys : List Value}
    (hown' : w1.ownsRow w.heap.size 163 3 (.slice (some ⟨g, 0, none⟩) (k + 1) cap) (k + 1) ys) (hgrow : (wd.alloc o).grownBy w1 (Value.slice a k c).ownBlock)
    (OD : wd.ownsRow w.heap.size 163 3 (.slice a k c) k xs) (HBD : Below w.heap.size w wd) :
    Hd (w1.ownsRow w.heap.size 163 3 (.slice (some ⟨g, 0, none⟩) (k + 1) cap) (k + 1) ys) ∧ Hd (Below w.heap.size w w1) :=
  ⟨⟨hown'⟩, ⟨(HBD.alloc HBD.size o).grown hgrow (by have := HBD.size; simp; omega) (fun k hk => (OD.lt k hk).1)⟩⟩

set_option maxHeartbeats 3200000 in
set_option maxRecDepth 100000 in
theorem of23_any (ad : Option Addr) (l : List Pr) (c : Nat) (w : World) (hl : Prs w ad l) (h60 : l.length ≤ 60) :
    Calls Tryz.prog 38 #[.slice ad l.length c] w (OfPr l w) := by
  have HP := Hd.mk hl
  obtain ⟨n, hn⟩ : ∃ n, l.length = n := ⟨_, rfl⟩
  have HN := Hd.mk hn
  have HR : Hd (∀ e w', (∃ a c, e = .returned (.slice a n c) ∧ PrsU w' a l ∧ Below w.heap.size w w') → OfPr l w e w') := ⟨fun e w' h => by unfold OfPr; rw [hn]; exact h⟩
  rw [hn] at h60 ⊢
  obtain ⟨i0, hi, hz0, hz1, hz2⟩ := info_parts info_pairU
  clear hl hn
  go_enter Tryz.func38, Tryz.ntmps38
  go_wp2_with fail
  go_loopw [3, 4] (fun sv iv wr => ∃ (k : Nat) (a : Option Addr) (cp : Nat), k ≤ n ∧ iv = .int .i64 k ∧ sv = .slice a k cp ∧ Hd (wr.ownsRow w.heap.size 163 3 (.slice a k cp) k (prU (l.take k))) ∧ Hd (Below w.heap.size w wr)) (fun _ iv _ => n - (intOf iv).toNat)
  case atStart => exact ⟨0, none, 0, Nat.zero_le _, rfl, rfl, ⟨by simpa [prU] using World.ownsRow_nil _ _ _ _⟩, ⟨Below.refl _ _⟩⟩
  case round =>
    obtain ⟨k, a, cp, hk, rfl, rfl, HO, HB⟩ := hrel
    by_cases hlt : k < n
    · have hlt' : (k : Int) < n := by omega
      have k0 : (0 : Int) ≤ k := by omega
      obtain ⟨bb, oo, rfl, c1, c2, c3⟩ := (HP.out.below HB.out).cell k (by rw [HN.out]; exact hlt)
      have HTk := Hd.mk (take_snocP l k (by rw [HN.out]; omega))
      generalize l.getD k pr0 = p at *
      obtain ⟨pa, pb, px⟩ := p
      dsimp only at c1 c2 c3
      go_wp2_with fail
      have s1 : wr.drew.cell? ⟨bb, oo + k * 3, none⟩ = _ := c1
      have s2 : wr.drew.cell? ⟨bb, oo + k * 3 + 1, none⟩ = _ := c2
      have s3 : wr.drew.cell? ⟨bb, oo + k * 3 + 2, none⟩ = _ := c3
      have OD : Hd (wr.drew.ownsRow w.heap.size 163 3 (.slice a k cp) k (prU (l.take k))) := ⟨HO.out⟩
      have BD : Hd (Below w.heap.size w wr.drew) := ⟨HB.out.drew⟩
      have hsz : w.heap.size ≤ wr.heap.size := HB.out.size
      have HNV : Hd (prU (l.take k) ++ [.int .i64 pa, .int .i64 pb, .int .u64 (px : Nat)] = prU (l.take (k + 1))) := ⟨by rw [HTk.out, prU_snoc]⟩
      go_region_law (
        first
        | (go_simp; go_at_call 39; refine (apiBits_any _ _).mono ?_; rintro en w2 ⟨rfl, rfl⟩)
        | (
        refine step_append_lies _ rfl (.tmp 11) (.tmp 29) 26 rfl w.heap.size 163 i0 (.agg #[.int .i64 0, .int .i64 0, .int .u64 0]) 3 24 Tryz.underlying26 hi hz0 hz1 hz2 rfl (by decide) (.slice a k cp) k (prU (l.take k)) rfl (OD.out.alloc _) ⟨wr.heap.size, 0, none⟩ 1 1 [.int .i64 pa, .int .i64 pb, .int .u64 (px : Nat)] (by rfl) rfl (by
          intro j u hj
          match j, hj with
          | 0, hj => simp at hj; subst hj; simp [Addr.add]
          | 1, hj => simp at hj; subst hj; simp [Addr.add]
          | 2, hj => simp at hj; subst hj; simp [Addr.add]) (by intro u hu; simp at hu; rcases hu with rfl | rfl | rfl <;> rfl) (by decide) (by unfold maxLen; omega) (by omega) (by simp; omega) _ rfl ?_
        intro g cap w1 hown' hgrow _ _
        rw [HNV.out] at hown'
        obtain ⟨HO', NB⟩ := ofp_step (w := w) (wd := wr.drew) (o := .cells #[.int .i64 pa, .int .i64 pb, .int .u64 (px : Nat)] 163) hown' hgrow OD.out BD.out
        clear hown' hgrow))
      all_goals
        clear OD BD s1 s2 s3 c1 c2 c3 HNV
        go_wp2_with fail
        exact ⟨⟨k + 1, some ⟨g, 0, none⟩, cap, by omega, by go_num, rfl, HO', NB⟩, by simp [intOf]; omega⟩
    · have hge : ¬ (k : Int) < n := by omega
      obtain rfl : n = k := by omega
      have HTk : Hd (l.take n = l) := ⟨List.take_of_length_le (by rw [HN.out]; omega)⟩
      rw [HTk.out] at HO
      clear hlt
      go_wp2_with fail
      go_ret
      exact HR.out _ _ ⟨a, cp, rfl, own_prsU HO.out HN.out HP.out.wf HP.out.rg HP.out.len, HB.out⟩

end Go.Proofs.YteikihidblcljaaGreat

/- The walk of the reference's way (tenorref23). -/
namespace Go.Proofs.YteikihidblcljaaGreat
open Go.RowKit
set_option linter.unusedSimpArgs false
set_option linter.unusedVariables false

/-- A block that holds a real. -/
def NBox (w : World) (b : Nat) (s : Bool) (a : Option Addr) (n c : Nat) (e : Int) : Prop := w.heap[b]? = some (.cells #[.bool s, .slice a n c, .int .i64 e] 62 (0, 0))
theorem NBox.cell {w : World} {b : Nat} {s : Bool} {a : Option Addr} {n c : Nat} {e : Int} (h : NBox w b s a n c e) :
    w.cell? ⟨b, 0, none⟩ = some (.bool s) ∧ w.cell? ⟨b, 1, none⟩ = some (.slice a n c) ∧ w.cell? ⟨b, 2, none⟩ = some (.int .i64 e) := by
  unfold NBox at h
  refine ⟨?_, ?_, ?_⟩ <;> simp [World.cell?, h]
theorem NBox.frozen {w : World} {b : Nat} {s : Bool} {a : Option Addr} {n c : Nat} {e : Int} (h : NBox w b s a n c e) (o : Nat) : w.frozen? ⟨b, o, none⟩ = false := by
  unfold NBox at h
  simp [World.frozen?, h]
theorem NBox.lt {w : World} {b : Nat} {s : Bool} {a : Option Addr} {n c : Nat} {e : Int} (h : NBox w b s a n c e) : b < w.heap.size := by
  unfold NBox at h
  exact (Array.getElem?_eq_some_iff.1 h).1
theorem NBox.belowB {B : Nat} {w w' : World} {b : Nat} {s : Bool} {a : Option Addr} {n c : Nat} {e : Int} (h : NBox w b s a n c e) (hb : Below B w w') (hB : b < B) : NBox w' b s a n c e := (hb.block b hB).trans h
theorem NBox.below {w w' : World} {b : Nat} {s : Bool} {a : Option Addr} {n c : Nat} {e : Int} (h : NBox w b s a n c e) (hb : Below w.heap.size w w') : NBox w' b s a n c e := h.belowB hb h.lt
theorem NBox.drew {w : World} {b : Nat} {s : Bool} {a : Option Addr} {n c : Nat} {e : Int} (h : NBox w b s a n c e) : NBox w.drew b s a n c e := h
theorem nbox1 (w : World) (s : Bool) (a : Option Addr) (n c : Nat) (e : Int) : ∃ W, (w.alloc (.cells #[.bool s, .slice a n c, .int .i64 e] 62)) = W ∧ NBox W w.heap.size s a n c e ∧ Below w.heap.size w W := by
  refine ⟨_, rfl, ?_, (Below.refl _ _).alloc (Nat.le_refl _) _⟩
  unfold NBox World.alloc; simp [Array.getElem?_push]
theorem nbox2 (w : World) (s : Bool) (a : Option Addr) (n c : Nat) (e : Int) (s' : Bool) (a' : Option Addr) (n' c' : Nat) (e' : Int) : ∃ W, ((w.alloc (.cells #[.bool s, .slice a n c, .int .i64 e] 62)).alloc (.cells #[.bool s', .slice a' n' c', .int .i64 e'] 62)) = W ∧ NBox W w.heap.size s a n c e ∧ NBox W (w.heap.size + 1) s' a' n' c' e' ∧ Below w.heap.size w W := by
  refine ⟨_, rfl, ?_, ?_, ((Below.refl _ _).alloc (Nat.le_refl _) _).alloc (by simp) _⟩
  · unfold NBox World.alloc; (try simp [Array.getElem?_push, Array.getElem_push]); all_goals (try omega)
  · unfold NBox World.alloc; simp [Array.getElem?_push, Array.getElem_push]
theorem NBox.no {w : World} {b : Nat} {s : Bool} {a : Option Addr} {n c : Nat} {e : Int} (h : NBox w b s a n c e) (o : Nat) (y : Int) : w.cell? ⟨b, o, none⟩ ≠ some (.int .u64 y) := by
  intro hc
  unfold NBox at h
  simp only [World.cell?, h, Option.bind_some] at hc
  match o, hc with
  | 0, hc => simp at hc
  | 1, hc => simp at hc
  | 2, hc => simp at hc
  | o + 3, hc => simp at hc
theorem Dgs.apartN {w w' : World} {a : Option Addr} {x b : Nat} (h : Dgs w a x) (hn : ∀ (o : Nat) (y : Int), w.cell? ⟨b, o, none⟩ ≠ Option.some (Value.int .u64 y)) (ho : Only b w w') : Dgs w' a x :=
  ⟨h.nil, fun b1 o v e i hi => ⟨(h.cell b1 o v e i hi).1, by
    have hc := (h.cell b1 o v e i hi).2
    have hne : b1 ≠ b := fun e1 => hn _ _ (by rw [← e1]; exact hc)
    have := ho.block b1 (World.block_lt_of_cell? _ _ hc) hne
    rw [World.cell?_of_block (w := w) (w' := w') (a := ⟨b1, o + i, none⟩) this, hc]⟩⟩
theorem NBox.only {w w' : World} {b c' : Nat} {s : Bool} {a : Option Addr} {n c : Nat} {e : Int} (h : NBox w b s a n c e) (ho : Only c' w w') (hc : b ≠ c') : NBox w' b s a n c e := (ho.block b h.lt hc).trans h
theorem only3 (b : Nat) (w : World) (v0 v1 v2 : Value) : Only b w (((w.setCell ⟨b, 0, none⟩ v0).setCell ⟨b, 1, none⟩ v1).setCell ⟨b, 2, none⟩ v2) := (((Only.refl b w).setCell 0 v0).setCell 1 v1).setCell 2 v2
/-- Digits stay when a box is written. -/
theorem Dgs.set3 {w : World} {a' : Option Addr} {x b : Nat} {s : Bool} {a : Option Addr} {n c : Nat} {e : Int} (d : Dgs w a' x) (h : NBox w b s a n c e) (v0 v1 v2 : Value) : Dgs (((w.setCell ⟨b, 0, none⟩ v0).setCell ⟨b, 1, none⟩ v1).setCell ⟨b, 2, none⟩ v2) a' x :=
  d.apartN h.no (only3 b w v0 v1 v2)
theorem Dgs.set6 {w : World} {a' : Option Addr} {x b b' : Nat} {s : Bool} {a : Option Addr} {n c : Nat} {e : Int} {s' : Bool} {a2 : Option Addr} {n' c' : Nat} {e' : Int} (d : Dgs w a' x) (h : NBox w b s a n c e) (h' : NBox w b' s' a2 n' c' e') (hne : b' ≠ b) (v0 v1 v2 u0 u1 u2 : Value) :
    Dgs ((((((w.setCell ⟨b, 0, none⟩ v0).setCell ⟨b, 1, none⟩ v1).setCell ⟨b, 2, none⟩ v2).setCell ⟨b', 0, none⟩ u0).setCell ⟨b', 1, none⟩ u1).setCell ⟨b', 2, none⟩ u2) a' x :=
  (d.set3 h v0 v1 v2).set3 (h'.only (only3 b w v0 v1 v2) hne) u0 u1 u2
/-- A block that holds the reference's table. -/
def TBoxU (w : World) (b : Nat) (v : Value) : Prop := w.heap[b]? = some (.cells #[v] 28 (0, 0))
theorem TBoxU.cell {w : World} {b : Nat} {v : Value} (h : TBoxU w b v) : w.cell? ⟨b, 0, none⟩ = some v := by unfold TBoxU at h; simp [World.cell?, h]
theorem TBoxU.frozen {w : World} {b : Nat} {v : Value} (h : TBoxU w b v) (o : Nat) : w.frozen? ⟨b, o, none⟩ = false := by unfold TBoxU at h; simp [World.frozen?, h]
theorem TBoxU.lt {w : World} {b : Nat} {v : Value} (h : TBoxU w b v) : b < w.heap.size := by unfold TBoxU at h; exact (Array.getElem?_eq_some_iff.1 h).1
theorem TBoxU.belowB {B : Nat} {w w' : World} {b : Nat} {v : Value} (h : TBoxU w b v) (hb : Below B w w') (hB : b < B) : TBoxU w' b v := (hb.block b hB).trans h
theorem TBoxU.below {w w' : World} {b : Nat} {v : Value} (h : TBoxU w b v) (hb : Below w.heap.size w w') : TBoxU w' b v := h.belowB hb h.lt
theorem rway_boxes (w : World) (v : Value) : ∃ W, (((w.alloc (.cells #[v] 28)).alloc (.cells #[.bool false, .slice none 0 0, .int .i64 0] 62)).alloc (.cells #[.bool false, .slice none 0 0, .int .i64 0] 62)) = W ∧
    TBoxU W w.heap.size v ∧ NBox W (w.heap.size + 1) false none 0 0 0 ∧ NBox W (w.heap.size + 2) false none 0 0 0 ∧ Below w.heap.size w W ∧ W.heap.size = w.heap.size + 3 := by
  refine ⟨_, rfl, ?_, ?_, ?_, (((Below.refl _ _).alloc (Nat.le_refl _) _).alloc (by simp) _).alloc (by simp; omega) _, by simp⟩
  · unfold TBoxU World.alloc; (try simp [Array.getElem?_push, Array.getElem_push]); all_goals (try omega)
  · unfold NBox World.alloc; (try simp [Array.getElem?_push, Array.getElem_push]); all_goals (try omega)
  · unfold NBox World.alloc; simp [Array.getElem?_push, Array.getElem_push]
theorem box_pairU (w : World) (pa pb : Int) (px : Nat) : ∃ W, (w.alloc (.cells #[.int .i64 pa, .int .i64 pb, .int .u64 (px : Nat)] 163)) = W ∧ Below w.heap.size w W ∧ W.cell? ⟨w.heap.size, 0, none⟩ = some (.int .i64 pa) ∧ W.cell? ⟨w.heap.size, 1, none⟩ = some (.int .i64 pb) ∧ W.cell? ⟨w.heap.size, 2, none⟩ = some (.int .u64 (px : Nat)) := by
  refine ⟨_, rfl, (Below.refl _ _).alloc (Nat.le_refl _) _, ?_, ?_, ?_⟩ <;> (unfold World.alloc; simp [World.cell?, Array.getElem?_push])

/-- It returns the products along a way, if there is one. -/
def RWayRet (L : List Pr) (f a b : Int) (w : World) (e : Ending) (w' : World) : Prop :=
  ((∃ l a1 c1 a2 c2, Wk L f a b l ∧ e = .returned (.tuple #[.agg #[.bool false, .slice a1 (nd (wM false l)) c1, .int .i64 (wE false l)], .agg #[.bool false, .slice a2 (nd (wM true l)) c2, .int .i64 (wE true l)], .bool true]) ∧ Dgs w' a1 (wM false l) ∧ Dgs w' a2 (wM true l)) ∨
    ((∀ l, ¬ Wk L f a b l) ∧ e = .returned (.tuple #[.agg #[.bool false, .slice none 0 0, .int .i64 0], .agg #[.bool false, .slice none 0 0, .int .i64 0], .bool false]))) ∧ Below w.heap.size w w'

set_option maxHeartbeats 800000 in
theorem one23_any (w : World) : Calls Tryz.prog 121 #[] w (NRet false 1 0 w) := by
  have H := Hd.mk fun w => whole_any 1 (by decide) (by decide) w
  rw [show decide ((1 : Int) < 0) = false by decide, show (1 : Int).natAbs = 1 from rfl] at H
  obtain ⟨W, hW, n1, b1⟩ := nbox1 w false none 0 0 0
  have N1 := Hd.mk n1
  have B1 := Hd.mk b1
  have HW := Hd.mk hW
  clear n1 b1 hW
  go_enter Tryz.func121, Tryz.ntmps121
  go_wp2_with fail
  (try rw [HW.out])
  refine (H.out _).mono ?_; rintro e w1 ⟨a, c, rfl, hd, hb⟩
  have HD := Hd.mk hd
  have M1 := Hd.mk (N1.out.below hb)
  have HB := Hd.mk (B1.out.trans (hb.mono B1.out.size))
  clear hd hb
  obtain ⟨r0, r1, r2⟩ := M1.out.cell
  have f1 := M1.out.frozen
  go_wp2_with fail
  refine bodyPost_ret (v := .agg #[.bool false, .slice a (nd 1) c, .int .i64 0]) (by simp [results, Tryz.results121, go_sem, r0, r1, r2]) rfl ⟨a, c, rfl, HD.out.set3 M1.out _ _ _, ?_⟩
  repeat (refine Below.setCell ?_ (by simp) _)
  exact HB.out

set_option maxHeartbeats 1600000 in
set_option maxRecDepth 100000 in
theorem rway_same (L : List Pr) (f a : Int) (w : World) (v : Value) :
    Calls Tryz.prog 85 #[.agg #[v], .int .i64 a, .int .i64 a, .int .i64 f] w (RWayRet L f a a w) := by
  have d : (a == a) = true := by simp
  obtain ⟨W, hW, t1, n1, n2, b1, sz⟩ := rway_boxes w v
  have N1 := Hd.mk n1
  have N2 := Hd.mk n2
  have B1 := Hd.mk b1
  have HW := Hd.mk hW
  have SZ := Hd.mk sz
  clear hW t1 n1 n2 b1 sz
  go_enter Tryz.func85, Tryz.ntmps85
  go_wp2_with fail
  (try rw [HW.out])
  refine (one23_any _).mono ?_; rintro e w1 ⟨a1, c1, rfl, hd, hb⟩
  have D1 := Hd.mk hd
  have M1 := Hd.mk (N1.out.below hb)
  have M2 := Hd.mk (N2.out.below hb)
  have C1 := Hd.mk (B1.out.trans (hb.mono B1.out.size))
  clear hd hb
  go_wp2_with fail
  refine (one23_any _).mono ?_; rintro e w2 ⟨a2, c2, rfl, hd, hb⟩
  have D2 := Hd.mk hd
  have D3 := Hd.mk (D1.out.below hb)
  have E1 := Hd.mk (M1.out.below hb)
  have E2 := Hd.mk (M2.out.below hb)
  have C2 := Hd.mk (C1.out.trans (hb.mono C1.out.size))
  clear hd hb D1 M1 M2 N1 N2 B1 C1
  obtain ⟨r0, r1, r2⟩ := E1.out.cell
  obtain ⟨q0, q1, q2⟩ := E2.out.cell
  have f1 := E1.out.frozen
  have f2 := E2.out.frozen
  go_wp2_with fail
  refine bodyPost_ret (v := .tuple #[.agg #[.bool false, .slice a1 (nd 1) c1, .int .i64 0], .agg #[.bool false, .slice a2 (nd 1) c2, .int .i64 0], .bool true]) (by simp [results, Tryz.results85, go_sem, r0, r1, r2, q0, q1, q2]) rfl ⟨Or.inl ⟨[], a1, c1, a2, c2, rfl, rfl, ?_, ?_⟩, ?_⟩
  · exact D3.out.set6 E1.out E2.out (by omega) _ _ _ _ _ _
  · exact D2.out.set6 E1.out E2.out (by omega) _ _ _ _ _ _
  · repeat (refine Below.setCell ?_ (by simp <;> omega) _)
    exact C2.out

end Go.Proofs.YteikihidblcljaaGreat

/- Pairs and flows that came in, opened. -/
namespace Go.Proofs.YteikihidblcljaaGreat
open Go.ChangeShapes Go.WideShapes Go.ChangeAt Go.RowKit

section
variable {H : Type} {enc : TypeId × Value → H} {P : Program} {w : World} {spare : Nat → Bool} {held : Bool}
theorem open_prs {t e : TypeId} {f0 f1 f2 : Field} {a : Option Addr} {len cap : Nat} {d : DataW H} {ps : List MemPlace}
    (ht : P.underlying t = some (.slice e)) (he : P.underlying e = some (.struct #[f0, f1, f2])) (hone : Go.Deep.oneCellFields P #[f0, f1, f2] = true) (hC : P.cellsOf e = 3)
    (h0 : P.underlying f0.type = some (.int .i64)) (h1 : P.underlying f1.type = some (.int .i64)) (h2 : P.underlying f2.type = some (.float .f64)) (h : DataW.Trod enc P w 0 spare held t (.slice a len cap) d ps) :
    ∃ l : List Pr, len = l.length ∧ Prs w a l ∧ Room a len cap := by
  obtain ⟨hr, _, V, hV, hf⟩ := open_rows ht he hone hC h
  have key : ∀ i, i < len → ∃ p : Pr, V i 0 = .int .i64 p.a ∧ V i 1 = .int .i64 p.b ∧ V i 2 = .float .f64 p.x ∧ F64 p.x ∧ (-9223372036854775808 ≤ p.a ∧ p.a ≤ 9223372036854775807) ∧ (-9223372036854775808 ≤ p.b ∧ p.b ≤ 9223372036854775807) := fun i hi => by
    obtain ⟨n0, y0, t0⟩ := hf i hi 0 f0 rfl
    obtain ⟨n1, y1, t1⟩ := hf i hi 1 f1 rfl
    obtain ⟨n2, y2, t2⟩ := hf i hi 2 f2 rfl
    obtain ⟨a0, e0, r0, r0'⟩ := trod_i64 h0 t0
    obtain ⟨a1, e1, r1, r1'⟩ := trod_i64 h1 t1
    obtain ⟨a2, e2, r2⟩ := trod_float h2 t2
    exact ⟨⟨a0, a1, a2⟩, e0, e1, e2, r2, ⟨r0, r0'⟩, ⟨r1, r1'⟩⟩
  haveI : Inhabited Pr := ⟨pr0⟩
  obtain ⟨F, hF⟩ := Go.Deep.choose_lt key
  have hg : ∀ i, i < len → ((List.range len).map F).getD i pr0 = F i := fun i hi => by simp [List.getD_eq_getElem?_getD, hi]
  have hg' : ∀ i, ¬ i < len → ((List.range len).map F).getD i pr0 = pr0 := fun i hi => by
    rw [List.getD_eq_getElem?_getD, List.getElem?_eq_none (by simp; omega)]; rfl
  refine ⟨(List.range len).map F, by simp, ⟨fun k hk => ?_, fun k => ?_, fun k => ?_, ?_⟩, hr⟩
  · simp at hk
    rw [hg k hk]
    obtain ⟨b, o, h1, h2⟩ := hV.addr (by omega) (show 0 < (#[f0, f1, f2] : Array Field).size by simp)
    have s : (#[f0, f1, f2] : Array Field).size = 3 := rfl
    rw [s] at h2
    have c0 := h2 k 0 hk (by decide)
    have c1 := h2 k 1 hk (by decide)
    have c2 := h2 k 2 hk (by decide)
    rw [(hF k hk).1] at c0
    rw [(hF k hk).2.1] at c1
    rw [(hF k hk).2.2.1] at c2
    exact ⟨b, o, h1, c0, c1, c2⟩
  · by_cases hk : k < len
    · rw [hg k hk]; exact (hF k hk).2.2.2.1
    · rw [hg' k hk]; exact ⟨by decide⟩
  · by_cases hk : k < len
    · rw [hg k hk]; exact (hF k hk).2.2.2.2
    · rw [hg' k hk]; simp [pr0]
  · simp; have := hr.le; have := hr.max; omega
theorem open_flws {t e : TypeId} {f0 f1 f2 : Field} {a : Option Addr} {len cap : Nat} {d : DataW H} {ps : List MemPlace}
    (ht : P.underlying t = some (.slice e)) (he : P.underlying e = some (.struct #[f0, f1, f2])) (hone : Go.Deep.oneCellFields P #[f0, f1, f2] = true) (hC : P.cellsOf e = 3)
    (h0 : P.underlying f0.type = some (.int .i64)) (h1 : P.underlying f1.type = some (.float .f64)) (h2 : P.underlying f2.type = some (.int .i64)) (h : DataW.Trod enc P w 0 spare held t (.slice a len cap) d ps) :
    ∃ l : List Fw, len = l.length ∧ Flws w a l ∧ Room a len cap := by
  obtain ⟨hr, _, V, hV, hf⟩ := open_rows ht he hone hC h
  have key : ∀ i, i < len → ∃ p : Fw, V i 0 = .int .i64 p.d ∧ V i 1 = .float .f64 p.x ∧ V i 2 = .int .i64 p.c ∧ F64 p.x ∧ (-9223372036854775808 ≤ p.d ∧ p.d ≤ 9223372036854775807) ∧ (-9223372036854775808 ≤ p.c ∧ p.c ≤ 9223372036854775807) := fun i hi => by
    obtain ⟨n0, y0, t0⟩ := hf i hi 0 f0 rfl
    obtain ⟨n1, y1, t1⟩ := hf i hi 1 f1 rfl
    obtain ⟨n2, y2, t2⟩ := hf i hi 2 f2 rfl
    obtain ⟨a0, e0, r0, r0'⟩ := trod_i64 h0 t0
    obtain ⟨a1, e1, r1⟩ := trod_float h1 t1
    obtain ⟨a2, e2, r2, r2'⟩ := trod_i64 h2 t2
    exact ⟨⟨a0, a1, a2⟩, e0, e1, e2, r1, ⟨r0, r0'⟩, ⟨r2, r2'⟩⟩
  haveI : Inhabited Fw := ⟨fw0⟩
  obtain ⟨F, hF⟩ := Go.Deep.choose_lt key
  have hg : ∀ i, i < len → ((List.range len).map F).getD i fw0 = F i := fun i hi => by simp [List.getD_eq_getElem?_getD, hi]
  have hg' : ∀ i, ¬ i < len → ((List.range len).map F).getD i fw0 = fw0 := fun i hi => by
    rw [List.getD_eq_getElem?_getD, List.getElem?_eq_none (by simp; omega)]; rfl
  refine ⟨(List.range len).map F, by simp, ⟨fun k hk => ?_, fun k => ?_, fun k => ?_, ?_⟩, hr⟩
  · simp at hk
    rw [hg k hk]
    obtain ⟨b, o, h1, h2⟩ := hV.addr (by omega) (show 0 < (#[f0, f1, f2] : Array Field).size by simp)
    have s : (#[f0, f1, f2] : Array Field).size = 3 := rfl
    rw [s] at h2
    have c0 := h2 k 0 hk (by decide)
    have c1 := h2 k 1 hk (by decide)
    have c2 := h2 k 2 hk (by decide)
    rw [(hF k hk).1] at c0
    rw [(hF k hk).2.1] at c1
    rw [(hF k hk).2.2.1] at c2
    exact ⟨b, o, h1, c0, c1, c2⟩
  · by_cases hk : k < len
    · rw [hg k hk]; exact (hF k hk).2.2.2.1
    · rw [hg' k hk]; exact ⟨by decide⟩
  · by_cases hk : k < len
    · rw [hg k hk]; exact (hF k hk).2.2.2.2
    · rw [hg' k hk]; simp [fw0]
  · simp; have := hr.le; have := hr.max; omega
end

end Go.Proofs.YteikihidblcljaaGreat

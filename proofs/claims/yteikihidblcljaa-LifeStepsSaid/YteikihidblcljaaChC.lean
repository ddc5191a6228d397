/- The walk of the reference's Of (tenorref14): flows, their amounts as words. -/
import Derived.Test.YteikihidblcljaaCdC
namespace Go.Proofs.Yteikihidblcljaa
open Go.RowKit
set_option linter.unusedSimpArgs false
set_option linter.unusedVariables false

/-- A slice of the reference's flows. -/
structure FlwsU (w : World) (ad : Option Addr) (L : List Fw) : Prop where
  cell : ∀ k, k < L.length → ∃ b o, ad = some ⟨b, o, none⟩ ∧ w.cell? ⟨b, o + k * 3, none⟩ = some (.int .i64 (L.getD k fw0).d) ∧ w.cell? ⟨b, o + k * 3 + 1, none⟩ = some (.int .u64 ((L.getD k fw0).x : Nat)) ∧ w.cell? ⟨b, o + k * 3 + 2, none⟩ = some (.int .i64 (L.getD k fw0).c)
  wf : ∀ k, F64 (L.getD k fw0).x
  rg : ∀ k, (-9223372036854775808 ≤ (L.getD k fw0).d ∧ (L.getD k fw0).d ≤ 9223372036854775807) ∧ (-9223372036854775808 ≤ (L.getD k fw0).c ∧ (L.getD k fw0).c ≤ 9223372036854775807)
  len : L.length ≤ 9223372036854775807
theorem FlwsU.below {w w' : World} {ad : Option Addr} {L : List Fw} (h : FlwsU w ad L) (hb : Below w.heap.size w w') : FlwsU w' ad L :=
  ⟨fun k hk => by
    obtain ⟨b, o, h1, h2, h3, h4⟩ := h.cell k hk
    have hl := World.block_lt_of_cell? _ _ h2
    exact ⟨b, o, h1, (hb.cell (p := ⟨b, o + k * 3, none⟩) hl).trans h2, (hb.cell (p := ⟨b, o + k * 3 + 1, none⟩) hl).trans h3, (hb.cell (p := ⟨b, o + k * 3 + 2, none⟩) hl).trans h4⟩, h.wf, h.rg, h.len⟩
theorem FlwsU.nil (w : World) (ad : Option Addr) : FlwsU w ad [] := ⟨fun k hk => by simp at hk, fun k => ⟨by simp [fw0]⟩, fun k => by simp [fw0], by simp⟩
def flU (l : List Fw) : List Value := l.flatMap fun p => [.int .i64 p.d, .int .u64 (p.x : Nat), .int .i64 p.c]
theorem flU_snoc (l : List Fw) (p : Fw) : flU (l ++ [p]) = flU l ++ [.int .i64 p.d, .int .u64 (p.x : Nat), .int .i64 p.c] := by
  unfold flU; rw [List.flatMap_append]; rfl
theorem flU_get (l : List Fw) (j : Nat) (h : j < l.length) : (flU l)[j * 3]? = some (.int .i64 (l.getD j fw0).d) ∧ (flU l)[j * 3 + 1]? = some (.int .u64 ((l.getD j fw0).x : Nat)) ∧ (flU l)[j * 3 + 2]? = some (.int .i64 (l.getD j fw0).c) := by
  unfold flU
  induction l generalizing j with
  | nil => simp at h
  | cons s r ih =>
    cases j with
    | zero => exact ⟨rfl, rfl, rfl⟩
    | succ j =>
      have := ih j (by simpa using h)
      rw [show (j + 1) * 3 = j * 3 + 1 + 1 + 1 by omega]
      simp only [List.flatMap_cons, List.cons_append, List.nil_append, List.getElem?_cons_succ, List.getD_cons_succ]
      exact this
theorem info_flowU : (Try.prog.info? 143).map (fun i => (i.zero, i.size, i.bytes)) = some (some (.agg #[.int .i64 0, .int .u64 0, .int .i64 0]), 3, 24) := by kernel_rfl
theorem own_flwsU {w : World} {base n c : Nat} {a : Option Addr} {l : List Fw} (h : w.ownsRow base 143 3 (.slice a n c) n (flU l)) (hn : l.length = n) (hw : ∀ k, F64 (l.getD k fw0).x) (hr : ∀ k, (-9223372036854775808 ≤ (l.getD k fw0).d ∧ (l.getD k fw0).d ≤ 9223372036854775807) ∧ (-9223372036854775808 ≤ (l.getD k fw0).c ∧ (l.getD k fw0).c ≤ 9223372036854775807)) (hl : l.length ≤ 9223372036854775807) : FlwsU w a l := by
  rcases h.2 with ⟨e, e2⟩ | ⟨g, cap, cur, e, _⟩
  · have : l = [] := List.length_eq_zero_iff.1 (by omega)
    subst this
    exact FlwsU.nil _ _
  · have ea : a = some ⟨g, 0, none⟩ := by simp at e; exact e.1
    subst ea
    refine ⟨fun k hk => ⟨g, 0, rfl, ?_⟩, hw, hr, hl⟩
    obtain ⟨c1, c2, c3⟩ := flU_get l k hk
    have ha : ∀ i, (⟨g, 0, none⟩ : Addr).add i = ⟨g, 0 + i, none⟩ := fun i => by by_cases h0 : i = 0 <;> simp [Addr.add, h0]
    have k1 := h.cells rfl _ _ c1
    have k2 := h.cells rfl _ _ c2
    have k3 := h.cells rfl _ _ c3
    rw [ha] at k1 k2 k3
    exact ⟨k1, k2, k3⟩
/-- It returns the reference's flows. -/
def OfFl (l : List Fw) (w : World) (e : Ending) (w' : World) : Prop := ∃ a c, e = .returned (.slice a l.length c) ∧ FlwsU w' a l ∧ Below w.heap.size w w'

theorem off_step {w wd w1 : World} {o : Obj} {k c g cap : Nat} {a : Option Addr} {xs ys : List Value}
    (hown' : w1.ownsRow w.heap.size 143 3 (.slice (some ⟨g, 0, none⟩) (k + 1) cap) (k + 1) ys) (hgrow : (wd.alloc o).grownBy w1 (Value.slice a k c).ownBlock)
    (OD : wd.ownsRow w.heap.size 143 3 (.slice a k c) k xs) (HBD : Below w.heap.size w wd) :
    Hd (w1.ownsRow w.heap.size 143 3 (.slice (some ⟨g, 0, none⟩) (k + 1) cap) (k + 1) ys) ∧ Hd (Below w.heap.size w w1) :=
  ⟨⟨hown'⟩, ⟨(HBD.alloc HBD.size o).grown hgrow (by have := HBD.size; simp; omega) (fun k hk => (OD.lt k hk).1)⟩⟩

set_option maxHeartbeats 3200000 in
set_option maxRecDepth 100000 in
theorem of14_any (ad : Option Addr) (l : List Fw) (c : Nat) (w : World) (hl : Flws w ad l) (h60 : l.length ≤ 60) :
    Calls Try.prog 40 #[.slice ad l.length c] w (OfFl l w) := by
  have HP := Hd.mk hl
  obtain ⟨n, hn⟩ : ∃ n, l.length = n := ⟨_, rfl⟩
  have HN := Hd.mk hn
  have HR : Hd (∀ e w', (∃ a c, e = .returned (.slice a n c) ∧ FlwsU w' a l ∧ Below w.heap.size w w') → OfFl l w e w') := ⟨fun e w' h => by unfold OfFl; rw [hn]; exact h⟩
  rw [hn] at h60 ⊢
  obtain ⟨i0, hi, hz0, hz1, hz2⟩ := info_parts info_flowU
  clear hl hn
  go_enter Try.func40, Try.ntmps40
  go_wp2_with fail
  go_loopw [3, 4] (fun sv iv wr => ∃ (k : Nat) (a : Option Addr) (cp : Nat), k ≤ n ∧ iv = .int .i64 k ∧ sv = .slice a k cp ∧ Hd (wr.ownsRow w.heap.size 143 3 (.slice a k cp) k (flU (l.take k))) ∧ Hd (Below w.heap.size w wr)) (fun _ iv _ => n - (intOf iv).toNat)
  case atStart => exact ⟨0, none, 0, Nat.zero_le _, rfl, rfl, ⟨by simpa [flU] using World.ownsRow_nil _ _ _ _⟩, ⟨Below.refl _ _⟩⟩
  case round =>
    obtain ⟨k, a, cp, hk, rfl, rfl, HO, HB⟩ := hrel
    by_cases hlt : k < n
    · have hlt' : (k : Int) < n := by omega
      have k0 : (0 : Int) ≤ k := by omega
      obtain ⟨bb, oo, rfl, c1, c2, c3⟩ := (HP.out.below HB.out).cell k (by rw [HN.out]; exact hlt)
      have HTk := Hd.mk (take_snocF l k (by rw [HN.out]; omega))
      generalize l.getD k fw0 = p at *
      obtain ⟨pa, pb, px⟩ := p
      dsimp only at c1 c2 c3
      go_wp2_with fail
      have s1 : wr.drew.cell? ⟨bb, oo + k * 3, none⟩ = _ := c1
      have s2 : wr.drew.cell? ⟨bb, oo + k * 3 + 1, none⟩ = _ := c2
      have s3 : wr.drew.cell? ⟨bb, oo + k * 3 + 2, none⟩ = _ := c3
      have OD : Hd (wr.drew.ownsRow w.heap.size 143 3 (.slice a k cp) k (flU (l.take k))) := ⟨HO.out⟩
      have BD : Hd (Below w.heap.size w wr.drew) := ⟨HB.out.drew⟩
      have hsz : w.heap.size ≤ wr.heap.size := HB.out.size
      have HNV : Hd (flU (l.take k) ++ [.int .i64 pa, .int .u64 (pb : Nat), .int .i64 px] = flU (l.take (k + 1))) := ⟨by rw [HTk.out, flU_snoc]⟩
      go_region_law (
        first
        | (go_simp; go_at_call 12; refine (apiBits_any _ _).mono ?_; rintro en w2 ⟨rfl, rfl⟩)
        | (
        refine step_append_lies _ rfl (.tmp 11) (.tmp 29) 78 rfl w.heap.size 143 i0 (.agg #[.int .i64 0, .int .u64 0, .int .i64 0]) 3 24 Try.underlying78 hi hz0 hz1 hz2 rfl (by decide) (.slice a k cp) k (flU (l.take k)) rfl (OD.out.alloc _) ⟨wr.heap.size, 0, none⟩ 1 1 [.int .i64 pa, .int .u64 (pb : Nat), .int .i64 px] (by rfl) rfl (by
          intro j u hj
          match j, hj with
          | 0, hj => simp at hj; subst hj; simp [Addr.add]
          | 1, hj => simp at hj; subst hj; simp [Addr.add]
          | 2, hj => simp at hj; subst hj; simp [Addr.add]) (by intro u hu; simp at hu; rcases hu with rfl | rfl | rfl <;> rfl) (by decide) (by unfold maxLen; omega) (by omega) (by simp; omega) _ rfl ?_
        intro g cap w1 hown' hgrow _ _
        rw [HNV.out] at hown'
        obtain ⟨HO', NB⟩ := off_step (w := w) (wd := wr.drew) (o := .cells #[.int .i64 pa, .int .u64 (pb : Nat), .int .i64 px] 143) hown' hgrow OD.out BD.out
        clear hown' hgrow))
      all_goals
        clear OD BD s1 s2 s3 c1 c2 c3 HNV
        go_wp2_with fail
        exact ⟨⟨k + 1, some ⟨g, 0, none⟩, cap, by omega, by go_num, rfl, HO', NB⟩, by simp [intOf]; omega⟩
    · have hge : ¬ (k : Int) < n := by omega
      obtain rfl : n = k := by omega
      have HTk : Hd (l.take n = l) := ⟨List.take_of_length_le (by rw [HN.out]; omega)⟩
      rw [HTk.out] at HO
      clear hlt
      go_wp2_with fail
      go_ret
      exact HR.out _ _ ⟨a, cp, rfl, own_flwsU HO.out HN.out HP.out.wf HP.out.rg HP.out.len, HB.out⟩

end Go.Proofs.Yteikihidblcljaa

/- The walk of the reference's Horner. -/
import Derived.Test.YtjhkjekbadbgnaaAz
import Derived.Test.YtjhkjekbadbgnaaPo
namespace Go.Proofs.Ytjhkjekbadbgnaa
open Go.RowKit
set_option linter.unusedSimpArgs false
set_option linter.unusedVariables false

/-- A slice of words, told as a list. -/
structure Us (w : World) (a : Option Addr) (l : List Nat) : Prop where
  nil : a = none → l = []
  cell : ∀ b o v, a = some ⟨b, o, v⟩ → ∀ i, i < l.length → v = none ∧ w.cell? ⟨b, o + i, none⟩ = some (.int .u64 (l.getD i 0))
  wf : ∀ i, F64 (l.getD i 0)
  len : l.length ≤ 1000000000

theorem Us.below {w w' : World} {a : Option Addr} {l : List Nat} (h : Us w a l) (hb : Below w.heap.size w w') : Us w' a l :=
  ⟨h.nil, fun b o v e i hi => ⟨(h.cell b o v e i hi).1, by
    have hc := (h.cell b o v e i hi).2
    rw [hb.cell (p := ⟨b, o + i, none⟩) (World.block_lt_of_cell? _ _ hc), hc]⟩, h.wf, h.len⟩

theorem F64_fadd' (x y : Nat) : F64 (fadd x y) := F64_fadd x y


set_option maxHeartbeats 8000000 in
set_option maxRecDepth 100000 in
theorem rHorner_any (a : Option Addr) (l : List Nat) (c x : Nat) (hx : F64 x) (w : World) (hl : Us w a l) :
    Calls Try.prog 35 #[.slice a l.length c, .int .u64 x] w (URet (horn l x) w) := by
  by_cases h0 : l.length = 0
  · obtain rfl : l = [] := List.eq_nil_of_length_eq_zero h0
    go_enter Try.func35, Try.ntmps35
    go_wp2
    go_ret
    exact ⟨rfl, Below.refl _ _⟩
  · obtain ⟨b, o, rfl⟩ : ∃ b o, a = some ⟨b, o, none⟩ := by
      cases a with
      | none => exact absurd (hl.nil rfl) (by intro h; rw [h] at h0; simp at h0)
      | some p => obtain ⟨b, o, v⟩ := p; obtain ⟨rfl, _⟩ := hl.cell b o v rfl 0 (by omega); exact ⟨b, o, rfl⟩
    have hpos : 0 < l.length := by omega
    have hlen := hl.len
    have hc0 : ((l.length : Int) == 0) = false := by rw [beq_eq_false_iff_ne]; omega
    have HL := Hd.mk hl
    have hc1 : w.cell? ⟨b, o + (l.length - 1), none⟩ = some (.int .u64 (l.getD (l.length - 1) 0)) := (hl.cell b o none rfl (l.length - 1) (by omega)).2
    clear hl h0
    go_enter Try.func35, Try.ntmps35
    go_wp2_with fail
    go_loopw [5, 6] (fun p i wr => ∃ (j r : Nat), j < l.length ∧ F64 r ∧ Hd (r = horn (l.drop j) x) ∧ p = .int .u64 r ∧ i = .int .i64 ((j : Int) - 1) ∧ Hd (Below w.heap.size w wr)) (fun _ i _ => (intOf i + 1).toNat)
    case atStart =>
      refine ⟨l.length - 1, l.getD (l.length - 1) 0, by omega, HL.out.wf _, ⟨(horn_last l x hpos).symm⟩, rfl, ?_, ⟨Below.refl _ _⟩⟩
      congr 1; omega
    case round =>
      obtain ⟨j, r, hj, hr, HR, rfl, rfl, HB⟩ := hrel
      by_cases hj0 : j = 0
      · subst hj0
        have H : Hd (r = horn l x) := HR
        go_wp2_with fail
        go_ret
        exact ⟨ret_int (by have := H.out; omega), HB.out⟩
      · obtain ⟨k, rfl⟩ : ∃ k, j = k + 1 := ⟨j - 1, by omega⟩
        have U := Hd.mk (HL.out.below HB.out)
        have c0 : wr.cell? ⟨b, o + k, none⟩ = some (.int .u64 (l.getD k 0)) := (U.out.cell b o none rfl k (by omega)).2
        have hf : F64 (l.getD k 0) := HL.out.wf k
        have HM := Hd.mk (rMul_any r x hr hx)
        have HA := Hd.mk (rAdd_any (fmul r x) (l.getD k 0) (F64_fmul r x) hf)
        have HS : Hd (fadd (fmul r x) (l.getD k 0) = horn (l.drop k) x) := ⟨by rw [HR.out, horn_step l x k hj]⟩
        have HF := Hd.mk (F64_fadd (fmul r x) (l.getD k 0))
        generalize l.getD k 0 = ck at *
        generalize fadd (fmul r x) ck = R at *
        generalize fmul r x = M at *
        have e8 : (((k + 1 : Nat) : Int) - 1) = k := by omega
        rw [e8]
        have k0 : (0 : Int) ≤ k := by omega
        have k1 : (k : Int) < l.length := by omega
        go_wp2_with fail
        go_region_held3 (fun w' => w'.cell? ⟨b, o + k, none⟩ = some (.int .u64 ck)) (first | exact c0 | exact d0 | exact g0) (first | (go_at_call 60; refine (HM.out _).mono ?_; rintro en w3 ⟨rfl, hb⟩; have d0 := cell_of_below hb (Nat.le_refl _) (show wr.drew.cell? ⟨b, o + k, none⟩ = _ from c0); have B3 := Hd.mk (HB.out.drew.trans (hb.mono HB.out.size)); clear hb) | (go_at_call 59; refine (HA.out _).mono ?_; rintro en w4 ⟨rfl, hb⟩; have g0 := cell_of_below hb (Nat.le_refl _) d0; have B4 := Hd.mk (B3.out.trans (hb.mono B3.out.size)); clear hb))
        go_wp2_with fail
        refine ⟨⟨k, R, by omega, HF.out, ⟨HS.out⟩, rfl, rfl, B4⟩, by simp [intOf]⟩

end Go.Proofs.Ytjhkjekbadbgnaa

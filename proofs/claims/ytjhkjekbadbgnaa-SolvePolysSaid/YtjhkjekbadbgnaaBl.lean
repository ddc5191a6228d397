/- The walk of tenorlaw1.Bits: a list's words. -/
import Derived.Test.YtjhkjekbadbgnaaHr
import Derived.Laws.AppendOwn
namespace Go.Proofs.Ytjhkjekbadbgnaa
open Go.RowKit
set_option linter.unusedSimpArgs false
set_option linter.unusedVariables false

/-- Words as cells. -/
def wds (l : List Nat) : List Value := l.map fun (u : Nat) => Value.int .u64 (u : Int)

theorem us_of_owns {w : World} {base : Nat} {v : Value} {l : List Nat} (h : w.ownsRow base 28 1 v l.length (wds l)) (hf : ∀ i, F64 (l.getD i 0)) (hl : l.length ≤ 1000000000) :
    ∃ a c, v = .slice a l.length c ∧ Us w a l := by
  obtain ⟨_, ⟨rfl, h0⟩ | ⟨g, cap, cur, rfl, _, hb, _, _, _, ht⟩⟩ := h
  · have : l = [] := List.eq_nil_of_length_eq_zero h0
    subst this
    exact ⟨none, 0, rfl, ⟨fun _ => rfl, (fun _ _ _ e => by cases e), hf, by simp⟩⟩
  · refine ⟨_, _, rfl, ⟨(fun e => by cases e), fun b o u e i hi => ?_, hf, hl⟩⟩
    cases e
    refine ⟨rfl, ?_⟩
    have h1 : cur[i]? = some (.int .u64 (l.getD i 0)) := by
      have h2 : (cur.toList.take (l.length * 1))[i]? = (wds l)[i]? := by rw [ht]
      rw [List.getElem?_take_of_lt (by omega)] at h2
      rw [← Array.getElem?_toList, h2]
      unfold wds
      simp [List.getElem?_eq_getElem hi]
    simp [World.cell?, hb, h1]

theorem owns_block {w : World} {base : Nat} {e : TypeId} {size : Nat} {v : Value} {n : Nat} {xs : List Value} (h : w.ownsRow base e size v n xs) : ∀ k, v.ownBlock = some k → base ≤ k := by
  intro k hk
  obtain ⟨_, ⟨rfl, _⟩ | ⟨g, cap, cur, rfl, hg, _⟩⟩ := h
  · cases hk
  · simp [Value.ownBlock] at hk; omega

theorem wds_take (l : List Nat) (k : Nat) (h : k < l.length) : wds (l.take (k + 1)) = wds (l.take k) ++ [.int .u64 ((l.getD k 0 : Nat) : Int)] := by
  unfold wds
  rw [List.take_add_one, List.map_append, List.getElem?_eq_getElem h]
  simp [List.getElem?_eq_getElem h]

set_option maxHeartbeats 8000000 in
theorem bitsL_any (a : Option Addr) (l : List Nat) (c : Nat) (w : World) (hl : Fls w a l) (h20 : l.length ≤ 1000) :
    Calls Try.prog 17 #[.slice a l.length c] w fun e w' => ∃ a' c', e = .returned (.slice a' l.length c') ∧ Us w' a' l ∧ Below w.heap.size w w' := by
  have HL := Hd.mk hl
  obtain ⟨n, hn⟩ : ∃ n, l.length = n := ⟨_, rfl⟩
  rw [hn] at h20 ⊢
  have HN := Hd.mk hn
  obtain ⟨i0, hi, hz0, hz1, hz2⟩ := info_parts info_u64
  have hcell : Hd (∀ k, k < n → ∃ b o, a = some ⟨b, o, none⟩ ∧ w.cell? ⟨b, o + k, none⟩ = some (.float .f64 (l.getD k 0))) := ⟨fun k hk => by
    cases a with
    | none => have := hl.nil rfl; rw [this] at hn; simp at hn; omega
    | some p => obtain ⟨b, o, v⟩ := p; obtain ⟨rfl, h⟩ := hl.cell b o v rfl k (by omega); exact ⟨b, o, rfl, h⟩⟩
  clear hl hn
  go_enter Try.func17, Try.ntmps17
  go_wp2_with fail
  go_loopw [3, 4] (fun v i wr => ∃ k : Nat, k ≤ n ∧ i = .int .i64 k ∧ Hd (wr.ownsRow w.heap.size 28 1 v k (wds (l.take k))) ∧ Hd (Below w.heap.size w wr)) (fun _ i _ => n - (intOf i).toNat)
  case atStart => exact ⟨0, Nat.zero_le _, rfl, ⟨⟨by simp [wds], .inl ⟨rfl, rfl⟩⟩⟩, ⟨Below.refl _ _⟩⟩
  case round =>
    obtain ⟨k, hk, rfl, HO, HB⟩ := hrel
    by_cases hlt : k < n
    · have hlt' : (k : Int) < n := by omega
      have k0 : (0 : Int) ≤ k := by omega
      obtain ⟨b, o, rfl, hc⟩ := hcell.out k hlt
      have hc' : wr.cell? ⟨b, o + k, none⟩ = some (.float .f64 (l.getD k 0)) := cell_of_below HB.out (Nat.le_refl _) hc
      clear hc
      have HT := Hd.mk (wds_take l k (by rw [HN.out]; exact hlt))
      generalize l.getD k 0 = x at *
      go_wp2_with fail
      refine (apiBits_any _ _).mono ?_; rintro en w' ⟨rfl, rfl⟩
      go_wp2_with (first
        | (at_builtin; refine wpList_append_own _ rfl _ _ 32 rfl w.heap.size 28 i0 (.int .u64 0) 1 8 Try.underlying32 hi hz0 hz1 hz2 rfl (by decide) _ _ _ rfl (HO.out.alloc _) ⟨wr.heap.size, 0, none⟩ 1 1 [.int .u64 x] rfl rfl ?c1 ?c2 ?c3 ?c4 ?c5 ?_)
        | fail)
      case c1 =>
        intro j u hj
        match j, hj with
        | 0, hj => simp at hj; subst hj; simp [Addr.add]
      case c2 => intro u hu; simp at hu; subst hu; rfl
      case c3 => unfold maxLen; omega
      case c4 => omega
      case c5 => have := HB.out.size; simp; omega
      · intro v' w1 hown' hgrow _
        rw [← HT.out] at hown'
        have HO' := Hd.mk hown'
        have HB' : Hd (Below w.heap.size w w1) := ⟨by
          refine (HB.out.alloc HB.out.size _).grown hgrow (by have := HB.out.size; simp; omega) ?_
          exact owns_block HO.out⟩
        clear hown' hgrow
        go_wp2_with fail
        refine ⟨⟨k + 1, by omega, by go_num, HO', HB'⟩, by simp [intOf]; omega⟩
    · obtain rfl : k = n := by omega
      go_wp2_with fail
      go_ret
      have h := HO.out
      rw [show l.take k = l by rw [List.take_of_length_le (by have := HN.out; omega)]] at h
      obtain ⟨a', c', rfl, hu⟩ := us_of_owns (l := l) (by rw [HN.out]; exact h) HL.out.wf (by have := HN.out; omega)
      rw [HN.out]
      exact ⟨a', c', rfl, hu, HB.out⟩

end Go.Proofs.Ytjhkjekbadbgnaa

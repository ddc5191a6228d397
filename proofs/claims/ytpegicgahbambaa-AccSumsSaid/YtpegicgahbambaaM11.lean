/- Put together out of several texts: Na Nb Nc Nd Ne Nf Kv Of Og Kw Kx Ky Ng Nh Ni Nj Nk Nl. -/
import Derived.Test.YtpegicgahbambaaM10
import Derived.Test.YtpegicgahbambaaM4
import Derived.Test.YtpegicgahbambaaM2
import Derived.Test.YtpegicgahbambaaM6
import Derived.Test.YtpegicgahbambaaM3
import Derived.Test.YtpegicgahbambaaM9
import Derived.Test.YtpegicgahbambaaM1
import Derived.StillTailTactics
import Derived.Deep.RegionHeld3
import Derived.BigQuiet
import Derived.ProofKit
import Derived.Deep.Slices
import Derived.WalkKit
import Derived.Laws.AppendOwnNone
import Derived.Laws.AppendOwn

/- The walks of the reference's Left, Pair and Kahan. -/
namespace Go.Proofs.Ytpegicgahbambaa
open Go.RowKit
set_option linter.unusedSimpArgs false
set_option linter.unusedVariables false

theorem fadd_cnr (x y : Nat) (hx : F64 x) (hy : F64 y) : fadd x (cn y) = fadd x y := by
  rw [← fadd_cn x (cn y) hx (F64_cn y hy), cn_cn, fadd_cn x y hx hy]
theorem fsub_cn2 (x y : Nat) (hx : F64 x) (hy : F64 y) : fsub (cn x) (cn y) = fsub x y := by unfold fsub; rw [sub_cn x y hx hy]
theorem fsub_cnl (x y : Nat) (hx : F64 x) (hy : F64 y) : fsub (cn x) y = fsub x y := by
  rw [← fsub_cn2 (cn x) y (F64_cn x hx) hy, cn_cn, fsub_cn2 x y hx hy]

/-- Steps from the left, on raw words. -/
def leftR (l : List Nat) : Nat := l.foldl fadd 0
theorem foldl_cn {β : Type} (f g : β → Nat → β) (P : β → Prop) (hf : ∀ s x, P s → F64 x → f s x = g s x ∧ P (g s x)) : ∀ (l : List Nat) (s : β), P s → (∀ i, F64 (l.getD i 0)) → l.foldl f s = l.foldl g s
  | [], _, _, _ => rfl
  | x :: l, s, hs, hl => by
    have h := hf s x hs (hl 0)
    rw [List.foldl_cons, List.foldl_cons, h.1]
    exact foldl_cn f g P hf l _ h.2 fun i => by have := hl (i + 1); simpa using this
theorem leftR_eq (l : List Nat) (hl : ∀ i, F64 (l.getD i 0)) : leftR l = leftF l :=
  (foldl_cn (fun s x => fadd s (cn x)) fadd F64 (fun s x hs hx => ⟨fadd_cnr s x hs hx, F64_fadd _ _⟩) l 0 F64_0 hl).symm
theorem leftR_take (l : List Nat) (k : Nat) (h : k < l.length) : leftR (l.take (k + 1)) = fadd (leftR (l.take k)) (l.getD k 0) := by
  unfold leftR
  rw [take_next l k h, List.foldl_append]
  rfl
theorem Us.at {w : World} {a : Option Addr} {l : List Nat} (h : Us w a l) (k : Nat) (hk : k < l.length) : ∃ b o, a = some ⟨b, o, none⟩ ∧ w.cell? ⟨b, o + k, none⟩ = some (.int .u64 (l.getD k 0)) := by
  cases ha : a with
  | none => have := h.nil ha; rw [this] at hk; simp at hk
  | some p => obtain ⟨b, o, v⟩ := p; have h2 := h.cell b o v ha k hk; obtain ⟨rfl, h3⟩ := h2; exact ⟨b, o, rfl, h3⟩
theorem F64_leftR (l : List Nat) : F64 (leftR l) := by
  unfold leftR
  suffices h : ∀ (l : List Nat) s, F64 s → F64 (l.foldl fadd s) from h l 0 F64_0
  intro l
  induction l with
  | nil => exact fun s hs => hs
  | cons x l ih => exact fun s _ => ih _ (F64_fadd _ _)

set_option maxHeartbeats 1600000 in
theorem refLeft_any (a : Option Addr) (l : List Nat) (c : Nat) (w : World) (hl : Us w a l) :
    Calls Try.prog 29 #[.slice a l.length c] w (URet (leftR l) w) := by
  have HL := Hd.mk hl
  have hlen := hl.len
  obtain ⟨n, hn⟩ : ∃ n, l.length = n := ⟨_, rfl⟩
  rw [hn] at hlen ⊢
  have HN := Hd.mk hn
  clear hl hn
  go_enter Try.func29, Try.ntmps29
  go_wp2_with fail
  go_loopw [3, 4] (fun sv iv wr => ∃ k : Nat, k ≤ n ∧ iv = .int .i64 k ∧ sv = .int .u64 (leftR (l.take k)) ∧ Hd (Below w.heap.size w wr)) (fun _ iv _ => n - (intOf iv).toNat)
  case atStart => exact ⟨0, Nat.zero_le _, rfl, rfl, ⟨Below.refl _ _⟩⟩
  case round =>
    obtain ⟨k, hk, rfl, rfl, HB⟩ := hrel
    by_cases hlt : k < n
    · obtain ⟨b, o, ha, hc⟩ := (HL.out.below HB.out).at k (by rw [HN.out]; exact hlt)
      subst ha
      have hlt' : (k : Int) < n := by omega
      have HS := Hd.mk (leftR_take l k (by rw [HN.out]; exact hlt))
      have HA := Hd.mk (rAdd_any (leftR (l.take k)) (l.getD k 0) (F64_leftR _) (HL.out.wf k))
      rw [← HS.out] at HA
      have k0 : (0 : Int) ≤ k := by omega
      generalize l.getD k 0 = x at *
      generalize leftR (l.take k) = s at *
      clear hlt
      go_wp2_with fail
      refine (HA.out _).mono ?_; rintro e w2 ⟨rfl, hb⟩
      have HB2 := Hd.mk (HB.out.trans (hb.mono HB.out.size))
      clear hb
      go_wp2_with fail
      exact ⟨⟨k + 1, by omega, by go_num, rfl, HB2⟩, by simp [intOf]; omega⟩
    · have hge : (n : Int) ≤ k := by omega
      have he : Hd (l.take k = l) := ⟨List.take_of_length_le (by rw [HN.out]; omega)⟩
      rw [he.out]
      clear hlt
      go_wp2_with fail
      go_ret
      exact ⟨rfl, HB.out⟩

end Go.Proofs.Ytpegicgahbambaa

/- The walks of the reference's Pair and Kahan. -/
namespace Go.Proofs.Ytpegicgahbambaa
open Go.RowKit
set_option linter.unusedSimpArgs false
set_option linter.unusedVariables false

/-- A sum by halves, on raw words. -/
def pairR : Nat → List Nat → Nat
  | 0, _ => 0
  | n + 1, l => if l.length = 0 then 0 else if l.length = 1 then l.getD 0 0 else fadd (pairR n (l.take (l.length / 2))) (pairR n (l.drop (l.length / 2)))
theorem wf_take {l : List Nat} (h : ∀ i, F64 (l.getD i 0)) (k : Nat) (i : Nat) : F64 ((l.take k).getD i 0) := by
  by_cases hi : i < k
  · have := h i
    simp only [List.getD_eq_getElem?_getD] at this ⊢
    rwa [List.getElem?_take_of_lt hi]
  · simp only [List.getD_eq_getElem?_getD]
    rw [List.getElem?_eq_none (by rw [List.length_take]; omega)]
    exact ⟨by decide⟩
theorem wf_drop {l : List Nat} (h : ∀ i, F64 (l.getD i 0)) (k : Nat) (i : Nat) : F64 ((l.drop k).getD i 0) := by
  have := h (k + i)
  simp only [List.getD_eq_getElem?_getD] at this ⊢
  rwa [List.getElem?_drop]
theorem F64_pairR : ∀ (n : Nat) (l : List Nat), (∀ i, F64 (l.getD i 0)) → F64 (pairR n l) := by
  intro n l h
  cases n with
  | zero => exact F64_0
  | succ n =>
    unfold pairR
    split
    · exact F64_0
    · split
      · exact h 0
      · exact F64_fadd _ _
theorem pairR_cn : ∀ (n : Nat) (l : List Nat), (∀ i, F64 (l.getD i 0)) → cn (pairR n l) = pairF n l := by
  intro n
  induction n with
  | zero => exact fun l _ => cn_zero
  | succ n ih =>
    intro l h
    unfold pairR pairF
    by_cases h0 : l.length = 0
    · rw [if_pos h0, if_pos h0]; exact cn_zero
    · rw [if_neg h0, if_neg h0]
      by_cases h1 : l.length = 1
      · rw [if_pos h1, if_pos h1]
      · rw [if_neg h1, if_neg h1, cn_fin_add, ← ih _ (wf_take h _), ← ih _ (wf_drop h _), fadd_cn _ _ (F64_pairR _ _ (wf_take h _)) (F64_pairR _ _ (wf_drop h _))]

theorem Us.takeK {w : World} {b o : Nat} {l : List Nat} (h : Us w (some ⟨b, o, none⟩) l) (k : Nat) (hk : k ≤ l.length) : Us w (some ⟨b, o, none⟩) (l.take k) :=
  ⟨(fun e => by cases e), fun b' o' v e i hi => by
    rw [List.length_take] at hi
    have := h.cell b' o' v e i (by omega)
    refine ⟨this.1, ?_⟩
    rw [this.2]
    congr 2
    simp only [List.getD_eq_getElem?_getD]
    rw [List.getElem?_take_of_lt (by omega)], wf_take h.wf k, by rw [List.length_take]; have := h.len; omega⟩
theorem Us.dropK {w : World} {b o : Nat} {l : List Nat} (h : Us w (some ⟨b, o, none⟩) l) (k : Nat) (hk : k ≤ l.length) : Us w (some ⟨b, o + k, none⟩) (l.drop k) :=
  ⟨(fun e => by cases e), fun b' o' v e i hi => by
    rw [List.length_drop] at hi
    cases e
    have := (h.cell b o none rfl (k + i) (by omega)).2
    refine ⟨rfl, ?_⟩
    rw [show o + k + i = o + (k + i) by omega, this]
    congr 2
    simp only [List.getD_eq_getElem?_getD]
    rw [List.getElem?_drop], wf_drop h.wf k, by rw [List.length_drop]; have := h.len; omega⟩

set_option maxHeartbeats 1600000 in
set_option maxRecDepth 100000 in
theorem refPair_any : ∀ (n : Nat) (a : Option Addr) (l : List Nat) (c : Nat) (w : World), l.length ≤ n → l.length ≤ c → c ≤ 9223372036854775807 → Us w a l →
    Calls Try.prog 31 #[.slice a l.length c] w (URet (pairR (n + 1) l) w) := by
  intro n
  induction n with
  | zero =>
    intro a l c w h1 h2 h3 hl
    have h0 : l.length = 0 := by omega
    have hv : pairR (0 + 1) l = 0 := by unfold pairR; rw [if_pos h0]
    rw [hv, h0]
    clear h1 h2 hl h0 hv
    go_enter Try.func31, Try.ntmps31
    go_wp2_with fail
    go_ret
    exact ⟨rfl, Below.refl _ _⟩
  | succ n ih =>
    intro a l c w h1 h2 h3 hl
    have HL := Hd.mk hl
    by_cases h0 : l.length = 0
    · have hv : pairR (n + 1 + 1) l = 0 := by unfold pairR; rw [if_pos h0]
      rw [hv, h0]
      clear h1 h2 hl h0 hv ih
      go_enter Try.func31, Try.ntmps31
      go_wp2_with fail
      go_ret
      exact ⟨rfl, Below.refl _ _⟩
    obtain ⟨b, o, ha, hc⟩ := hl.at 0 (by omega)
    subst ha
    rw [Nat.add_zero] at hc
    by_cases hone : l.length = 1
    · have hv : pairR (n + 1 + 1) l = l.getD 0 0 := by unfold pairR; rw [if_neg h0, if_pos hone]
      rw [hv, hone]
      clear h1 h2 hl h0 hv ih HL
      generalize l.getD 0 0 = x at *
      go_enter Try.func31, Try.ntmps31
      go_wp2_with fail
      go_ret
      exact ⟨rfl, Below.refl _ _⟩
    · have hv : pairR (n + 1 + 1) l = fadd (pairR (n + 1) (l.take (l.length / 2))) (pairR (n + 1) (l.drop (l.length / 2))) := by
        conv => lhs; unfold pairR
        rw [if_neg h0, if_neg hone]
      rw [hv]
      obtain ⟨h, hh⟩ : ∃ h, l.length / 2 = h := ⟨_, rfl⟩
      obtain ⟨N, hN⟩ : ∃ N, l.length = N := ⟨_, rfl⟩
      rw [hh]
      rw [hN] at h0 h1 h2 hh hone ⊢
      have hh1 : 1 ≤ h := by omega
      have hh2 : h < N := by omega
      have H1 : Hd (∀ w', Below w.heap.size w w' → Calls Try.prog 31 #[.slice (some ⟨b, o, none⟩) h c] w' fun e w'' => e = .returned (.int .u64 (pairR (n + 1) (l.take h))) ∧ Below w.heap.size w w'') := ⟨fun w' e => by
        have := ih (some ⟨b, o, none⟩) (l.take h) c w' (by rw [List.length_take]; omega) (by rw [List.length_take]; omega) h3 ((HL.out.takeK h (by omega)).below e)
        rw [List.length_take, hN, Nat.min_eq_left (by omega)] at this
        exact this.mono fun _ _ g => ⟨g.1, e.trans (g.2.mono e.size)⟩⟩
      have H2 : Hd (∀ w', Below w.heap.size w w' → Calls Try.prog 31 #[.slice (some ⟨b, o + h, none⟩) (N - h) (c - h)] w' fun e w'' => e = .returned (.int .u64 (pairR (n + 1) (l.drop h))) ∧ Below w.heap.size w w'') := ⟨fun w' e => by
        have := ih (some ⟨b, o + h, none⟩) (l.drop h) (c - h) w' (by rw [List.length_drop]; omega) (by rw [List.length_drop]; omega) (by omega) ((HL.out.dropK h (by omega)).below e)
        rw [List.length_drop, hN] at this
        exact this.mono fun _ _ g => ⟨g.1, e.trans (g.2.mono e.size)⟩⟩
      have HA := Hd.mk (rAdd_any _ _ (F64_pairR (n + 1) _ (wf_take HL.out.wf h)) (F64_pairR (n + 1) _ (wf_drop HL.out.wf h)))
      generalize pairR (n + 1) (l.take h) = V1 at *
      generalize pairR (n + 1) (l.drop h) = V2 at *
      have t1 : ((N : Int) == 0) = false := by rw [beq_eq_false_iff_ne]; omega
      have t2 : ((N : Int) == 1) = false := by rw [beq_eq_false_iff_ne]; omega
      have d1 : (N : Int) / 2 = h := by omega
      have b1 : (1 : Int) ≤ h := by omega
      have b2 : (h : Int) < N := by omega
      have b3 : (N : Int) ≤ c := by omega
      have b4 : (c : Int) ≤ 9223372036854775807 := by omega
      clear ih HL hl hc hv h1 hN hone h0
      have hh3 : h ≤ c := by omega
      have b5 : (0 : Int) ≤ N := by omega
      have b6 : (N : Int) ≤ 9223372036854775807 := by omega
      have b7 : (h : Int) ≤ c := by omega
      have b8 : (h : Int) ≤ N := by omega
      have b9 : h ≤ N := by omega
      have hh4 : ¬ c = h := by omega
      clear hh
      have hwr : IntKind.i64.wrap (h : Int) = h := by rw [IntKind.wrap_i64]; omega
      go_enter Try.func31, Try.ntmps31
      go_wp2_with fail
      go_region_with (first
        | (go_at_call 31; (with_reducible refine (H1.out _ ?_).mono ?_); (first | exact (Below.refl _ _).drew | exact Q2.out); rintro en w1 ⟨rfl, hb⟩; have Q1 := Hd.mk hb; clear hb)
        | (go_at_call 31; (with_reducible refine (H2.out _ ?_).mono ?_); (first | exact (Below.refl _ _).drew | exact Q1.out); rintro en w2 ⟨rfl, hb⟩; have Q2 := Hd.mk hb; clear hb)
        | (go_at_call 68; (with_reducible refine (HA.out _).mono ?_); rintro en w3 ⟨rfl, hb⟩; have Q3 := Hd.mk hb; clear hb))
      all_goals
        go_wp2_with fail
        go_ret
        first
          | exact ⟨rfl, Q2.out.trans (Q3.out.mono Q2.out.size)⟩
          | exact ⟨rfl, Q1.out.trans (Q3.out.mono Q1.out.size)⟩

end Go.Proofs.Ytpegicgahbambaa

/- The walk of the reference's Kahan. -/
namespace Go.Proofs.Ytpegicgahbambaa
open Go.RowKit
set_option linter.unusedSimpArgs false
set_option linter.unusedVariables false

theorem gmB_cn (s x : Nat) : gmB s (cn x) = gmB s x := by
  cases h : nn x
  · rw [cn_of x h]
  · unfold gmB; rw [nn_cn, h]; simp
theorem kahS_cn (p : Nat × Nat) (x : Nat) (h1 : F64 p.1) (h2 : F64 p.2) (hx : F64 x) : kahS p (cn x) = kahS p x := by
  unfold kahS
  rw [gmB_cn, fadd_cnr p.1 x h1 hx, fadd_cnr _ x (F64_fsub _ _) hx, fsub_cnl x _ hx (F64_fadd _ _)]
theorem F64_kahS (p : Nat × Nat) (x : Nat) : F64 (kahS p x).1 ∧ F64 (kahS p x).2 := ⟨F64_fadd _ _, F64_fadd _ _⟩
def kahR (l : List Nat) : Nat × Nat := l.foldl kahS (0, 0)
theorem kahR_eq (l : List Nat) (hl : ∀ i, F64 (l.getD i 0)) : kahR l = kahP l :=
  (foldl_cn (fun p x => kahS p (cn x)) kahS (fun p => F64 p.1 ∧ F64 p.2) (fun p x h hx => ⟨kahS_cn p x h.1 h.2 hx, F64_kahS p x⟩) l (0, 0) ⟨F64_0, F64_0⟩ hl).symm
theorem kahR_take (l : List Nat) (k : Nat) (h : k < l.length) : kahR (l.take (k + 1)) = kahS (kahR (l.take k)) (l.getD k 0) := by
  unfold kahR
  rw [take_next l k h, List.foldl_append]
  rfl
theorem F64_kahR (l : List Nat) : F64 (kahR l).1 ∧ F64 (kahR l).2 := by
  unfold kahR
  suffices h : ∀ (l : List Nat) p, F64 p.1 ∧ F64 p.2 → F64 (l.foldl kahS p).1 ∧ F64 (l.foldl kahS p).2 from h l (0, 0) ⟨F64_0, F64_0⟩
  intro l
  induction l with
  | nil => exact fun p hp => hp
  | cons x l ih => exact fun p _ => ih _ (F64_kahS p x)
theorem gmB_lt (s x : Nat) (hs : nn s = false) (hx : nn x = false) : (!ltB (mg s) (mg x)) = gmB s x := by
  have h1 := mg_lt s
  have h2 := mg_lt x
  unfold ltB gmB nn
  rw [mg_small _ h1, mg_small _ h2]
  unfold nn at hs hx
  rw [hs, hx]
  rw [rk_of_pos (ng_small _ h1), rk_of_pos (ng_small _ h2), mg_small _ h1, mg_small _ h2]
  simp only [Bool.not_false, Bool.true_and]
  rw [Bool.eq_iff_iff]
  simp
theorem gmB_nan (s x : Nat) (h : nn s = true ∨ nn x = true) : gmB s x = false := by
  unfold gmB
  rcases h with h | h <;> rw [h] <;> simp


set_option maxHeartbeats 3200000 in
set_option maxRecDepth 100000 in
theorem refKahan_any (a : Option Addr) (l : List Nat) (c : Nat) (w : World) (hl : Us w a l) :
    Calls Try.prog 33 #[.slice a l.length c] w (URet (kahF l) w) := by
  have HL := Hd.mk hl
  have hlen := hl.len
  obtain ⟨n, hn⟩ : ∃ n, l.length = n := ⟨_, rfl⟩
  rw [hn] at hlen ⊢
  have HN := Hd.mk hn
  have hF : Hd (fadd (kahR l).1 (kahR l).2 = kahF l) := ⟨by rw [kahR_eq l hl.wf]; rfl⟩
  clear hl hn
  go_enter Try.func33, Try.ntmps33
  go_wp2_with fail
  go_loopw [3, 4, 5] (fun sv cv iv wr => ∃ k : Nat, k ≤ n ∧ iv = .int .i64 k ∧ sv = .int .u64 (kahR (l.take k)).1 ∧ cv = .int .u64 (kahR (l.take k)).2 ∧ Hd (Below w.heap.size w wr)) (fun _ _ iv _ => n - (intOf iv).toNat)
  case atStart => exact ⟨0, Nat.zero_le _, rfl, rfl, rfl, ⟨Below.refl _ _⟩⟩
  case round =>
    obtain ⟨k, hk, rfl, rfl, rfl, HB⟩ := hrel
    by_cases hlt : k < n
    · obtain ⟨b, o, ha, hc⟩ := (HL.out.below HB.out).at k (by rw [HN.out]; exact hlt)
      subst ha
      have hlt' : (k : Int) < n := by omega
      have HS := Hd.mk (kahR_take l k (by rw [HN.out]; exact hlt))
      have HX := Hd.mk (HL.out.wf k)
      have FP := Hd.mk (F64_kahR (l.take k))
      have k0 : (0 : Int) ≤ k := by omega
      have H1 := Hd.mk (show k + 1 ≤ n ∧ n - (k + 1) < n - k by omega)
      obtain ⟨p, hp⟩ : ∃ p, kahR (l.take k) = p := ⟨_, rfl⟩
      rw [hp] at HS FP ⊢
      generalize l.getD k 0 = x at *
      obtain ⟨s, cc⟩ := p
      have HP := Hd.mk hp
      clear hlt hp
      have HA1 := Hd.mk (rAdd_any s x FP.out.1 HX.out)
      obtain ⟨t, ht⟩ : ∃ t, fadd s x = t := ⟨_, rfl⟩
      rw [ht] at HA1
      have HE1 : Hd ((kahR (l.take (k + 1))).1 = t) := ⟨by rw [HS.out]; exact ht⟩
      have Ft : Hd (F64 t) := ⟨by rw [← ht]; exact F64_fadd _ _⟩
      have HT := Hd.mk ht
      clear ht
      have HN1 := Hd.mk (rIsNaN_any s FP.out.1)
      have HN2 := Hd.mk (rIsNaN_any x HX.out)
      have HZ1 := Hd.mk (rSize_any s FP.out.1)
      have HZ2 := Hd.mk (rSize_any x HX.out)
      have HLt := Hd.mk (rLt_any (mg s) (mg x) ⟨by have := mg_lt s; omega⟩ ⟨by have := mg_lt x; omega⟩)
      have HY : Hd (∀ g, gmB s x = g → (kahR (l.take (k + 1))).2 = fadd cc (if g then fadd (fsub s t) x else fadd (fsub x t) s)) := ⟨fun g hg => by rw [HS.out, ← HT.out, ← hg]; rfl⟩
      cases hg : gmB s x
      · have HE2 := Hd.mk (HY.out false hg)
        simp only [Bool.false_eq_true, if_false] at HE2
        have HSb := Hd.mk (rSub_any x t HX.out Ft.out)
        have HA2 := Hd.mk (rAdd_any (fsub x t) s (F64_fsub _ _) FP.out.1)
        have HA3 := Hd.mk (rAdd_any cc (fadd (fsub x t) s) FP.out.2 (F64_fadd _ _))
        cases n1 : nn s
        · rw [n1] at HN1
          cases n2 : nn x
          · rw [n2] at HN2
            have hL : ltB (mg s) (mg x) = true := by have := gmB_lt s x n1 n2; rw [hg] at this; simpa using this
            rw [hL] at HLt
            clear hL hg HY n1 n2
            generalize mg s = ms at *
            generalize mg x = mx at *
            go_wp2_with fail
            refine (HA1.out _).mono ?_; rintro e w2 ⟨rfl, hb⟩
            have HB2 := Hd.mk (HB.out.trans (hb.mono HB.out.size))
            clear hb
            go_wp2_with fail
            refine (HN1.out _).mono ?_; rintro e w' ⟨rfl, rfl⟩
            go_wp2_with fail
            refine (HN2.out _).mono ?_; rintro e w' ⟨rfl, rfl⟩
            go_wp2_with fail
            refine (HZ1.out _).mono ?_; rintro e w' ⟨rfl, rfl⟩
            go_wp2_with fail
            refine (HZ2.out _).mono ?_; rintro e w' ⟨rfl, rfl⟩
            go_wp2_with fail
            refine (HLt.out _).mono ?_; rintro e w' ⟨rfl, rfl⟩
            go_wp2_with fail
            refine (HSb.out _).mono ?_; rintro e w3 ⟨rfl, hb⟩
            have B3 := Hd.mk (HB2.out.trans (hb.mono HB2.out.size))
            clear hb
            go_wp2_with fail
            refine (HA2.out _).mono ?_; rintro e w4 ⟨rfl, hb⟩
            have B4 := Hd.mk (B3.out.trans (hb.mono B3.out.size))
            clear hb B3
            go_wp2_with fail
            refine (HA3.out _).mono ?_; rintro e w5 ⟨rfl, hb⟩
            have B5 := Hd.mk (B4.out.trans (hb.mono B4.out.size))
            clear hb B4
            go_wp2_with fail
            exact ⟨⟨k + 1, H1.out.1, by go_num, by rw [HE1.out], by rw [HE2.out], B5⟩, by simp [intOf]; exact H1.out.2⟩
          · rw [n2] at HN2
            clear hg HY n1 n2 HZ1 HZ2 HLt
            go_wp2_with fail
            refine (HA1.out _).mono ?_; rintro e w2 ⟨rfl, hb⟩
            have HB2 := Hd.mk (HB.out.trans (hb.mono HB.out.size))
            clear hb
            go_wp2_with fail
            refine (HN1.out _).mono ?_; rintro e w' ⟨rfl, rfl⟩
            go_wp2_with fail
            refine (HN2.out _).mono ?_; rintro e w' ⟨rfl, rfl⟩
            go_wp2_with fail
            refine (HSb.out _).mono ?_; rintro e w3 ⟨rfl, hb⟩
            have B3 := Hd.mk (HB2.out.trans (hb.mono HB2.out.size))
            clear hb
            go_wp2_with fail
            refine (HA2.out _).mono ?_; rintro e w4 ⟨rfl, hb⟩
            have B4 := Hd.mk (B3.out.trans (hb.mono B3.out.size))
            clear hb B3
            go_wp2_with fail
            refine (HA3.out _).mono ?_; rintro e w5 ⟨rfl, hb⟩
            have B5 := Hd.mk (B4.out.trans (hb.mono B4.out.size))
            clear hb B4
            go_wp2_with fail
            exact ⟨⟨k + 1, H1.out.1, by go_num, by rw [HE1.out], by rw [HE2.out], B5⟩, by simp [intOf]; exact H1.out.2⟩
        · rw [n1] at HN1
          clear hg HY n1 HN2 HZ1 HZ2 HLt
          go_wp2_with fail
          refine (HA1.out _).mono ?_; rintro e w2 ⟨rfl, hb⟩
          have HB2 := Hd.mk (HB.out.trans (hb.mono HB.out.size))
          clear hb
          go_wp2_with fail
          refine (HN1.out _).mono ?_; rintro e w' ⟨rfl, rfl⟩
          go_wp2_with fail
          refine (HSb.out _).mono ?_; rintro e w3 ⟨rfl, hb⟩
          have B3 := Hd.mk (HB2.out.trans (hb.mono HB2.out.size))
          clear hb
          go_wp2_with fail
          refine (HA2.out _).mono ?_; rintro e w4 ⟨rfl, hb⟩
          have B4 := Hd.mk (B3.out.trans (hb.mono B3.out.size))
          clear hb B3
          go_wp2_with fail
          refine (HA3.out _).mono ?_; rintro e w5 ⟨rfl, hb⟩
          have B5 := Hd.mk (B4.out.trans (hb.mono B4.out.size))
          clear hb B4
          go_wp2_with fail
          exact ⟨⟨k + 1, H1.out.1, by go_num, by rw [HE1.out], by rw [HE2.out], B5⟩, by simp [intOf]; exact H1.out.2⟩
      · have HE2 := Hd.mk (HY.out true hg)
        simp only [if_true] at HE2
        have HSb := Hd.mk (rSub_any s t FP.out.1 Ft.out)
        have HA2 := Hd.mk (rAdd_any (fsub s t) x (F64_fsub _ _) HX.out)
        have HA3 := Hd.mk (rAdd_any cc (fadd (fsub s t) x) FP.out.2 (F64_fadd _ _))
        have n1 : nn s = false := by cases h : nn s; rfl; rw [gmB_nan s x (.inl h)] at hg; cases hg
        have n2 : nn x = false := by cases h : nn x; rfl; rw [gmB_nan s x (.inr h)] at hg; cases hg
        rw [n1] at HN1
        rw [n2] at HN2
        have hL : ltB (mg s) (mg x) = false := by have := gmB_lt s x n1 n2; rw [hg] at this; simpa using this
        rw [hL] at HLt
        clear hL hg HY n1 n2
        generalize mg s = ms at *
        generalize mg x = mx at *
        go_wp2_with fail
        refine (HA1.out _).mono ?_; rintro e w2 ⟨rfl, hb⟩
        have HB2 := Hd.mk (HB.out.trans (hb.mono HB.out.size))
        clear hb
        go_wp2_with fail
        refine (HN1.out _).mono ?_; rintro e w' ⟨rfl, rfl⟩
        go_wp2_with fail
        refine (HN2.out _).mono ?_; rintro e w' ⟨rfl, rfl⟩
        go_wp2_with fail
        refine (HZ1.out _).mono ?_; rintro e w' ⟨rfl, rfl⟩
        go_wp2_with fail
        refine (HZ2.out _).mono ?_; rintro e w' ⟨rfl, rfl⟩
        go_wp2_with fail
        refine (HLt.out _).mono ?_; rintro e w' ⟨rfl, rfl⟩
        go_wp2_with fail
        refine (HSb.out _).mono ?_; rintro e w3 ⟨rfl, hb⟩
        have B3 := Hd.mk (HB2.out.trans (hb.mono HB2.out.size))
        clear hb
        go_wp2_with fail
        refine (HA2.out _).mono ?_; rintro e w4 ⟨rfl, hb⟩
        have B4 := Hd.mk (B3.out.trans (hb.mono B3.out.size))
        clear hb B3
        go_wp2_with fail
        refine (HA3.out _).mono ?_; rintro e w5 ⟨rfl, hb⟩
        have B5 := Hd.mk (B4.out.trans (hb.mono B4.out.size))
        clear hb B4
        go_wp2_with fail
        exact ⟨⟨k + 1, H1.out.1, by go_num, by rw [HE1.out], by rw [HE2.out], B5⟩, by simp [intOf]; exact H1.out.2⟩
    · have hge : (n : Int) ≤ k := by omega
      have he : Hd (l.take k = l) := ⟨List.take_of_length_le (by rw [HN.out]; omega)⟩
      rw [he.out]
      have HA := Hd.mk (rAdd_any (kahR l).1 (kahR l).2 (F64_kahR l).1 (F64_kahR l).2)
      rw [hF.out] at HA
      clear hlt
      generalize (kahR l).1 = s at *
      generalize (kahR l).2 = cc at *
      go_wp2_with fail
      refine (HA.out _).mono ?_; rintro e w2 ⟨rfl, hb⟩
      have HB2 := Hd.mk (HB.out.trans (hb.mono HB.out.size))
      clear hb
      go_wp2_with fail
      go_ret
      exact ⟨rfl, HB2.out⟩

end Go.Proofs.Ytpegicgahbambaa

/- The reference's accumulator: its state and its sum; the walk of inf. -/
namespace Go.Proofs.Ytpegicgahbambaa
open Go.RowKit
set_option linter.unusedSimpArgs false
set_option linter.unusedVariables false

def stOf (up dn : Bool) : Int := if up && dn then 3 else if up then 1 else if dn then 2 else 0

/-- The reference's accumulator of the sum z. -/
structure R3 (w : World) (s : Bool) (a : Option Addr) (d : Nat) (e : Int) (z : Int) (up dn : Bool) : Prop where
  dg : Dgs w a d
  sm : nd d ≤ 140
  lo : -2148 ≤ e
  hi : e ≤ 2000
  val : up = false → dn = false → sg s (d * 2 ^ (e + 2148).toNat) = z
def R3V (st : Int) (s : Bool) (a : Option Addr) (n c : Nat) (e : Int) : Value := .agg #[.int .i64 st, .bool s, .slice a n c, .int .i64 e]
def R3Ret (z : Int) (up dn : Bool) (w : World) (en : Ending) (w' : World) : Prop :=
  ∃ s a d c e, en = .returned (.agg #[.int .i64 (stOf up dn), .bool s, .slice a (nd d) c, .int .i64 e]) ∧ R3 w' s a d e z up dn ∧ Below w.heap.size w w'
theorem R3.below {w w' : World} {s : Bool} {a : Option Addr} {d : Nat} {e z : Int} {up dn : Bool} (h : R3 w s a d e z up dn) (hb : Below w.heap.size w w') : R3 w' s a d e z up dn :=
  ⟨h.dg.below hb, h.sm, h.lo, h.hi, h.val⟩
theorem R3.zero (w : World) (z : Int) (up dn : Bool) (h : up = false → dn = false → z = 0) : R3 w false none 0 0 z up dn :=
  ⟨Dgs.zero w, by decide, by decide, by decide, fun h1 h2 => by rw [h h1 h2, Nat.zero_mul]; rfl⟩

set_option maxHeartbeats 1600000 in
theorem r3inf_any (up dn neg : Bool) (s : Bool) (a : Option Addr) (n c : Nat) (e : Int) (w : World) :
    Calls Try.prog 96 #[.agg #[.int .i64 (stOf up dn), .bool s, .slice a n c, .int .i64 e], .bool neg] w fun en w' =>
      en = .returned (.agg #[.int .i64 (stOf (up || !neg) (dn || neg)), .bool false, .slice none 0 0, .int .i64 0]) ∧ Below w.heap.size w w' := by
  have HB : Hd (∀ (o : Obj) (o' : Obj), Below w.heap.size w ((w.alloc o).alloc o')) := ⟨fun o o' => (((Below.refl _ _).alloc (Nat.le_refl _) o).alloc (World.alloc_size_le _ _) o')⟩
  cases up <;> cases dn <;> cases neg
  · rw [show stOf false false = 0 from rfl, show stOf (false || !false) (false || false) = 1 from rfl]
    go_enter Try.func96, Try.ntmps96
    go_wp2_with fail
    exact bodyPost_ret (v := .agg #[.int .i64 1, .bool false, .slice none 0 0, .int .i64 0]) (by simp [results, Try.results96, go_sem]) rfl ⟨rfl, HB.out _ _⟩
  · rw [show stOf false false = 0 from rfl, show stOf (false || !true) (false || true) = 2 from rfl]
    go_enter Try.func96, Try.ntmps96
    go_wp2_with fail
    exact bodyPost_ret (v := .agg #[.int .i64 2, .bool false, .slice none 0 0, .int .i64 0]) (by simp [results, Try.results96, go_sem]) rfl ⟨rfl, HB.out _ _⟩
  · rw [show stOf false true = 2 from rfl, show stOf (false || !false) (true || false) = 3 from rfl]
    go_enter Try.func96, Try.ntmps96
    go_wp2_with fail
    exact bodyPost_ret (v := .agg #[.int .i64 3, .bool false, .slice none 0 0, .int .i64 0]) (by simp [results, Try.results96, go_sem]) rfl ⟨rfl, HB.out _ _⟩
  · rw [show stOf false true = 2 from rfl, show stOf (false || !true) (true || true) = 2 from rfl]
    go_enter Try.func96, Try.ntmps96
    go_wp2_with fail
    exact bodyPost_ret (v := .agg #[.int .i64 2, .bool false, .slice none 0 0, .int .i64 0]) (by simp [results, Try.results96, go_sem]) rfl ⟨rfl, HB.out _ _⟩
  · rw [show stOf true false = 1 from rfl, show stOf (true || !false) (false || false) = 1 from rfl]
    go_enter Try.func96, Try.ntmps96
    go_wp2_with fail
    exact bodyPost_ret (v := .agg #[.int .i64 1, .bool false, .slice none 0 0, .int .i64 0]) (by simp [results, Try.results96, go_sem]) rfl ⟨rfl, HB.out _ _⟩
  · rw [show stOf true false = 1 from rfl, show stOf (true || !true) (false || true) = 3 from rfl]
    go_enter Try.func96, Try.ntmps96
    go_wp2_with fail
    exact bodyPost_ret (v := .agg #[.int .i64 3, .bool false, .slice none 0 0, .int .i64 0]) (by simp [results, Try.results96, go_sem]) rfl ⟨rfl, HB.out _ _⟩
  · rw [show stOf true true = 3 from rfl, show stOf (true || !false) (true || false) = 3 from rfl]
    go_enter Try.func96, Try.ntmps96
    go_wp2_with fail
    exact bodyPost_ret (v := .agg #[.int .i64 3, .bool false, .slice none 0 0, .int .i64 0]) (by simp [results, Try.results96, go_sem]) rfl ⟨rfl, HB.out _ _⟩
  · rw [show stOf true true = 3 from rfl, show stOf (true || !true) (true || true) = 3 from rfl]
    go_enter Try.func96, Try.ntmps96
    go_wp2_with fail
    exact bodyPost_ret (v := .agg #[.int .i64 3, .bool false, .slice none 0 0, .int .i64 0]) (by simp [results, Try.results96, go_sem]) rfl ⟨rfl, HB.out _ _⟩

end Go.Proofs.Ytpegicgahbambaa

/- What the reference's sums are worth, in the units of a sum. -/
namespace Go.Proofs.Ytpegicgahbambaa
open Go.RowKit
set_option linter.unusedSimpArgs false
set_option linter.unusedVariables false

theorem lt_pow_mono {x a b : Nat} (h : x < 2 ^ a) (k : a ≤ b) : x < 2 ^ b := Nat.lt_of_lt_of_le h (Nat.pow_le_pow_right (by decide) k)
theorem AccB_nd {z : Int} (h : AccB z) {d : Nat} (hd : d ≤ z.natAbs) : nd d ≤ 140 := by
  have h1 := fits_aux z 67 1 h.1 h.2
  rw [Nat.div_one] at h1
  obtain ⟨n, hn⟩ : ∃ n, n = 140 := ⟨_, rfl⟩
  obtain ⟨k, hk⟩ : ∃ k, k = 64 * (67 + 1) := ⟨_, rfl⟩
  rw [← hk] at h1
  rw [← hn]
  refine nd_le ?_
  rw [BB_pow]
  exact lt_pow_mono (Nat.lt_of_le_of_lt hd h1) (by omega)
theorem sg_natAbs (s : Bool) (A : Nat) : (sg s A).natAbs = A := by unfold sg; split <;> omega
theorem sg_zero (s : Bool) : sg s 0 = 0 := by unfold sg; split <;> rfl
theorem sumD_sg (s : Bool) (A : Nat) (s' : Bool) (B : Nat) : sg (sumS s A s' B) (sumD s A s' B) = sg s A + sg s' B := by
  obtain ⟨h1, h2⟩ := sum_sg s A s' B
  generalize sg s A + sg s' B = t at *
  by_cases h0 : sumD s A s' B = 0
  · rw [h0, sg_zero]; omega
  · have h3 := h2 h0
    rw [← h3]
    unfold sg
    by_cases ht : t < 0
    · rw [if_pos (by simpa using ht)]; omega
    · rw [if_neg (by simpa using ht)]; omega
theorem low_val (s : Bool) (d : Nat) (e E : Int) (hE : -2148 ≤ E) (h : d ≠ 0 → E ≤ e) : sg s (lowN d e E) * ((2 ^ (E + 2148).toNat : Nat) : Int) = sg s (d * 2 ^ (e + 2148).toNat) := by
  rw [← sg_scale]
  congr 1
  unfold lowN
  by_cases h0 : d = 0
  · subst h0; simp
  · have := h h0
    rw [Nat.mul_assoc, ← Nat.pow_add]
    congr 2
    omega
theorem plus_val (s : Bool) (d : Nat) (e : Int) (s' : Bool) (d' : Nat) (e' : Int) (l : -2148 ≤ e) (l' : -2148 ≤ e') (u : e ≤ 2000) (u' : e' ≤ 2000) :
    ∀ E A B, plE d e d' e' = E → lowN d e E = A → lowN d' e' E = B →
    -2148 ≤ sumE s A s' B E ∧ sumE s A s' B E ≤ 2000 ∧ sg (sumS s A s' B) (sumD s A s' B * 2 ^ (sumE s A s' B E + 2148).toNat) = sg s (d * 2 ^ (e + 2148).toNat) + sg s' (d' * 2 ^ (e' + 2148).toNat) := by
  intro E A B hE hA hB
  have b1 : -2148 ≤ E ∧ E ≤ 2000 := by rw [← hE]; unfold plE; split; omega; split; omega; omega
  have e1 : d ≠ 0 → E ≤ e := by intro h0; rw [← hE]; unfold plE; rw [if_neg h0]; split <;> omega
  have e2 : d' ≠ 0 → E ≤ e' := by intro h0; rw [← hE]; unfold plE; rw [if_neg h0]; split <;> omega
  have v1 := low_val s d e E b1.1 e1
  have v2 := low_val s' d' e' E b1.1 e2
  rw [hA] at v1
  rw [hB] at v2
  rw [← v1, ← v2, ← Int.add_mul, ← sumD_sg]
  refine ⟨by unfold sumE; split; omega; split <;> omega, by unfold sumE; split; omega; split <;> omega, ?_⟩
  rw [sg_scale]
  by_cases hz : sumD s A s' B = 0
  · rw [hz, sg_zero, Int.zero_mul, Int.zero_mul]
  · have : sumE s A s' B E = E := by
      unfold sumE
      unfold sumD at hz
      split
      · rfl
      · rename_i hn
        rw [if_neg hn] at hz
        split
        · rename_i he; rw [if_pos he] at hz; exact absurd rfl hz
        · rfl
    rw [this]
theorem of_val (u : Nat) (hu : F64 u) (f : fin u = true) :
    -2148 ≤ (if mnt u = 0 then 0 else exq u) ∧ (if mnt u = 0 then 0 else exq u) ≤ 971 ∧ sg (ng u && !(mnt u == 0)) (mnt u * 2 ^ ((if mnt u = 0 then 0 else exq u) + 2148).toNat) = aZ u := by
  have hb := exq_bd u f
  by_cases h : mnt u = 0
  · rw [if_pos h, h, Nat.zero_mul, sg_zero, aZ_zero u ((mnt_zero u).1 h)]
    omega
  · rw [if_neg h, show (ng u && !(mnt u == 0)) = ng u by simp [h]]
    have h1 := add_units u hu f
    rw [Nat.zero_mul, Nat.zero_add] at h1
    rw [h1]
    refine ⟨by omega, by omega, ?_⟩
    unfold aZ; rw [f, if_pos rfl]
theorem times_val (u v : Nat) (hu : F64 u) (hv : F64 v) (f : fin u = true) (f' : fin v = true) :
    ∀ s d e s' d' e', (ng u && !(mnt u == 0)) = s → mnt u = d → (if mnt u = 0 then 0 else exq u) = e → (ng v && !(mnt v == 0)) = s' → mnt v = d' → (if mnt v = 0 then 0 else exq v) = e' →
    -2148 ≤ (if d * d' = 0 then 0 else e + e') ∧ (if d * d' = 0 then 0 else e + e') ≤ 1942 ∧ sg ((s != s') && !(d * d' == 0)) (d * d' * 2 ^ ((if d * d' = 0 then 0 else e + e') + 2148).toNat) = pZ u v := by
  intro s d e s' d' e' hs hd he hs' hd' he'
  have hb := exq_bd u f
  have hb' := exq_bd v f'
  have hp : pZ u v = SV u * SV v := by unfold pZ; rw [f, f']; rfl
  by_cases h : d * d' = 0
  · rw [if_pos h, h, Nat.zero_mul, sg_zero, hp]
    refine ⟨by decide, by decide, ?_⟩
    rcases Nat.mul_eq_zero.1 h with h1 | h1
    · rw [SV_mg0 u ((mnt_zero u).1 (hd.trans h1)), Int.zero_mul]
    · rw [SV_mg0 v ((mnt_zero v).1 (hd'.trans h1)), Int.mul_zero]
  · have h1 : mnt u ≠ 0 := fun e0 => h (by rw [← hd, e0, Nat.zero_mul])
    have h2 : mnt v ≠ 0 := fun e0 => h (by rw [← hd', e0, Nat.mul_zero])
    rw [if_neg h1] at he
    rw [if_neg h2] at he'
    have hs1 : ng u = s := by rw [← hs]; simp [h1]
    have hs2 : ng v = s' := by rw [← hs']; simp [h2]
    rw [if_neg h, hp]
    have h3 := prod_units u v hu hv f f'
    rw [← h3, ← hs1, ← hs2, ← hd, ← hd', ← he, ← he']
    refine ⟨by omega, by omega, ?_⟩
    have h4 : mnt u * mnt v / W64 * W64 + mnt u * mnt v % W64 = mnt u * mnt v := by rw [Nat.mul_comm]; exact Nat.div_add_mod _ _
    rw [h4, show ((ng u != ng v) && !(mnt u * mnt v == 0)) = (ng u != ng v) by rw [show (mnt u * mnt v == 0) = false by rw [beq_eq_false_iff_ne]; exact fun e0 => by rcases Nat.mul_eq_zero.1 e0 with h5 | h5; exact h1 h5; exact h2 h5]; simp]

end Go.Proofs.Ytpegicgahbambaa

/- The walk of the reference's Add (tenorref3). -/
namespace Go.Proofs.Ytpegicgahbambaa
open Go.RowKit
set_option linter.unusedSimpArgs false
set_option linter.unusedVariables false

/-- A block that holds the reference's accumulator. -/
def Box3 (w : World) (b : Nat) (st : Int) (s : Bool) (a : Option Addr) (n c : Nat) (e : Int) : Prop := w.heap[b]? = some (.cells #[.int .i64 st, .bool s, .slice a n c, .int .i64 e] 74 (0, 0))
theorem Box3.cell {w : World} {b : Nat} {st : Int} {s : Bool} {a : Option Addr} {n c : Nat} {e : Int} (h : Box3 w b st s a n c e) :
    w.cell? ⟨b, 0, none⟩ = some (.int .i64 st) ∧ w.cell? ⟨b, 1, none⟩ = some (.bool s) ∧ w.cell? ⟨b, 2, none⟩ = some (.slice a n c) ∧ w.cell? ⟨b, 3, none⟩ = some (.int .i64 e) := by
  unfold Box3 at h
  refine ⟨?_, ?_, ?_, ?_⟩ <;> simp [World.cell?, h]
theorem Box3.frozen {w : World} {b : Nat} {st : Int} {s : Bool} {a : Option Addr} {n c : Nat} {e : Int} (h : Box3 w b st s a n c e) (o : Nat) : w.frozen? ⟨b, o, none⟩ = false := by
  unfold Box3 at h
  simp [World.frozen?, h]
theorem Box3.lt {w : World} {b : Nat} {st : Int} {s : Bool} {a : Option Addr} {n c : Nat} {e : Int} (h : Box3 w b st s a n c e) : b < w.heap.size := by
  unfold Box3 at h
  exact (Array.getElem?_eq_some_iff.1 h).1
theorem Box3.below {w w' : World} {b : Nat} {st : Int} {s : Bool} {a : Option Addr} {n c : Nat} {e : Int} (h : Box3 w b st s a n c e) (hb : Below w.heap.size w w') : Box3 w' b st s a n c e := (hb.block b h.lt).trans h
theorem Box3.no {w : World} {b : Nat} {st : Int} {s : Bool} {a : Option Addr} {n c : Nat} {e : Int} (h : Box3 w b st s a n c e) (o : Nat) (x : Int) : w.cell? ⟨b, o, none⟩ ≠ some (.int .u64 x) := by
  unfold Box3 at h
  intro hc
  simp [World.cell?, h] at hc
  match o, hc with
  | 0, hc => simp at hc
  | 1, hc => simp at hc
  | 2, hc => simp at hc
  | 3, hc => simp at hc
  | o + 4, hc => simp at hc
theorem Dgs.apart {w w' : World} {a : Option Addr} {x b : Nat} (h : Dgs w a x) (hn : ∀ (o : Nat) (y : Int), w.cell? ⟨b, o, none⟩ ≠ Option.some (Value.int .u64 y)) (ho : Only b w w') : Dgs w' a x :=
  ⟨h.nil, fun b1 o v e i hi => ⟨(h.cell b1 o v e i hi).1, by
    have hc := (h.cell b1 o v e i hi).2
    have hne : b1 ≠ b := fun e1 => hn _ _ (by rw [← e1]; exact hc)
    have := ho.block b1 (World.block_lt_of_cell? _ _ hc) hne
    rw [World.cell?_of_block (w := w) (w' := w') (a := ⟨b1, o + i, none⟩) this, hc]⟩⟩

theorem Dgs.stored4 {W : World} {a' : Option Addr} {x b : Nat} {st : Int} {s : Bool} {a : Option Addr} {n c : Nat} {e : Int} (h : Dgs W a' x) (hb : Box3 W b st s a n c e) (v0 v1 v2 v3 : Value) :
    Dgs ((((W.setCell ⟨b, 0, none⟩ v0).setCell ⟨b, 1, none⟩ v1).setCell ⟨b, 2, none⟩ v2).setCell ⟨b, 3, none⟩ v3) a' x :=
  h.apart hb.no (((((Only.refl b W).setCell 0 v0).setCell 1 v1).setCell 2 v2).setCell 3 v3)
theorem inf_of (u : Nat) (hn : nn u = false) (hf : fin u = false) : inf u = true := by
  unfold nn INF at hn; unfold fin INF at hf; unfold inf
  simp at hn hf ⊢; omega
theorem two_boxes (w : World) (st : Int) (s : Bool) (a : Option Addr) (n c : Nat) (e : Int) :
    ∃ W, ((w.alloc (.cells #[.int .i64 st, .bool s, .slice a n c, .int .i64 e] 74)).alloc (.cells #[.int .i64 0, .bool false, .slice none 0 0, .int .i64 0] 74)) = W ∧
      Box3 W w.heap.size st s a n c e ∧ Box3 W (w.heap.size + 1) 0 false none 0 0 0 ∧ Below w.heap.size w W ∧ W.heap.size = w.heap.size + 2 := by
  refine ⟨_, rfl, ?_, ?_, (((Below.refl _ _).alloc (Nat.le_refl _) _).alloc (World.alloc_size_le _ _) _), by go_simp⟩
  · unfold Box3 World.alloc; simp [Array.getElem?_push]
  · unfold Box3 World.alloc; simp [Array.getElem?_push, Array.getElem_push]

set_option maxHeartbeats 1600000 in
theorem r3add_nan (up dn : Bool) (s : Bool) (a : Option Addr) (n c : Nat) (e : Int) (u : Nat) (hu : F64 u) (hn : nn u = true) (w : World) :
    Calls Try.prog 48 #[.agg #[.int .i64 (stOf up dn), .bool s, .slice a n c, .int .i64 e], .int .u64 u] w fun en w' =>
      en = .returned (.agg #[.int .i64 3, .bool false, .slice none 0 0, .int .i64 0]) ∧ Below w.heap.size w w' := by
  have HN := Hd.mk (rIsNaN_any u hu)
  rw [hn] at HN
  generalize stOf up dn = st
  have HB : Hd (∀ (o : Obj) (o' : Obj), Below w.heap.size w ((w.alloc o).alloc o')) := ⟨fun o o' => (((Below.refl _ _).alloc (Nat.le_refl _) o).alloc (World.alloc_size_le _ _) o')⟩
  clear hn hu
  go_enter Try.func48, Try.ntmps48
  go_wp2_with fail
  refine (HN.out _).mono ?_; rintro e w' ⟨rfl, rfl⟩
  go_wp2_with fail
  exact bodyPost_ret (v := .agg #[.int .i64 3, .bool false, .slice none 0 0, .int .i64 0]) (by simp [results, Try.results48, go_sem]) rfl ⟨rfl, HB.out _ _⟩

set_option maxHeartbeats 1600000 in
set_option maxRecDepth 100000 in
theorem r3add_inf (up dn : Bool) (s : Bool) (a : Option Addr) (n c : Nat) (e : Int) (u : Nat) (hu : F64 u) (hn : nn u = false) (hf : fin u = false) (w : World) :
    Calls Try.prog 48 #[.agg #[.int .i64 (stOf up dn), .bool s, .slice a n c, .int .i64 e], .int .u64 u] w fun en w' =>
      en = .returned (.agg #[.int .i64 (stOf (up || !ng u) (dn || ng u)), .bool false, .slice none 0 0, .int .i64 0]) ∧ Below w.heap.size w w' := by
  have HN := Hd.mk (rIsNaN_any u hu)
  rw [hn] at HN
  have HI := Hd.mk (rIsInf_any u hu)
  rw [inf_of u hn hf] at HI
  have HNg := Hd.mk (rNegative_any u)
  have HF := Hd.mk (r3inf_any up dn (ng u) s a n c e)
  generalize stOf (up || !ng u) (dn || ng u) = st' at *
  generalize stOf up dn = st at *
  have HB : Hd (∀ (o : Obj) (o' : Obj), Below w.heap.size w ((w.alloc o).alloc o')) := ⟨fun o o' => (((Below.refl _ _).alloc (Nat.le_refl _) o).alloc (World.alloc_size_le _ _) o')⟩
  clear hn hu hf
  generalize ng u = neg at *
  obtain ⟨W, hW, b1, b2, b3, b4⟩ := two_boxes w st s a n c e
  have c1 := b1.cell
  have c2 := b2.cell
  have B1 := Hd.mk b1
  have B2 := Hd.mk b2
  have B3 := Hd.mk b3
  obtain ⟨x0, x1, x2, x3⟩ := c1
  obtain ⟨y0, y1, y2, y3⟩ := c2
  have HS := Hd.mk b4
  clear b1 b2 b3 b4 HB
  have HW := Hd.mk hW
  go_enter Try.func48, Try.ntmps48
  go_upto_region 1 with fail
  clear hW HW
  go_wp2_with fail
  refine (HN.out _).mono ?_; rintro e w' ⟨rfl, rfl⟩
  go_wp2_with fail
  refine (HI.out _).mono ?_; rintro e w' ⟨rfl, rfl⟩
  go_wp2_with fail
  refine wp_region_still_tail 3 (by kernel_rfl) (by kernel_rfl) ?_
  simp only [List.take_succ_cons, List.take_zero, List.drop_succ_cons, List.drop_zero]
  change wpStill _ _ W.drew _ _ _
  still_step
  still_step
  still_call ((HNg.out _).mono fun _ _ h => ⟨h.1, h.2.symm⟩)
  refine wpStill_nil ?_
  change wpList _ _ _ _ _ W.drew
  go_wp2_with fail
  refine (HF.out _).mono ?_; rintro en w5 ⟨rfl, hb⟩
  have C2 := Hd.mk ((show Box3 W.drew _ _ _ _ _ _ _ from B2.out).below hb)
  have D := Hd.mk (B3.out.drew.trans (hb.mono B3.out.size))
  obtain ⟨z0, z1, z2, z3⟩ := C2.out.cell
  have fz := C2.out.frozen
  clear hb x0 x1 x2 x3 y0 y1 y2 y3
  go_wp2_with fail
  exact bodyPost_ret (v := .agg #[.int .i64 st', .bool false, .slice none 0 0, .int .i64 0]) (by simp [results, Try.results48, go_sem, z0, z1, z2, z3]) rfl ⟨rfl, by (repeat (refine Below.setCell ?_ (by simp) _)); exact D.out⟩

set_option maxHeartbeats 1600000 in
set_option maxRecDepth 100000 in
theorem r3add_stays (st : Int) (hst : st ≠ 0) (s : Bool) (a : Option Addr) (d c : Nat) (e : Int) (u : Nat) (hu : F64 u) (hn : nn u = false) (hf : inf u = false) (w : World) (hd : Dgs w a d) :
    Calls Try.prog 48 #[.agg #[.int .i64 st, .bool s, .slice a (nd d) c, .int .i64 e], .int .u64 u] w fun en w' =>
      en = .returned (.agg #[.int .i64 st, .bool s, .slice a (nd d) c, .int .i64 e]) ∧ Dgs w' a d ∧ Below w.heap.size w w' := by
  have HN := Hd.mk (rIsNaN_any u hu)
  rw [hn] at HN
  have HI := Hd.mk (rIsInf_any u hu)
  rw [hf] at HI
  have hs0 : (st != 0) = true := by rw [bne_iff_ne]; exact hst
  have HD := Hd.mk hd
  obtain ⟨n, hnd⟩ : ∃ n, nd d = n := ⟨_, rfl⟩
  rw [hnd]
  clear hn hu hf hst hd hnd
  obtain ⟨W, hW, b1, b2, b3, b4⟩ := two_boxes w st s a n c e
  have c1 := b1.cell
  have c2 := b2.cell
  have B1 := Hd.mk b1
  have B2 := Hd.mk b2
  have B3 := Hd.mk b3
  obtain ⟨x0, x1, x2, x3⟩ := c1
  obtain ⟨y0, y1, y2, y3⟩ := c2
  have HS := Hd.mk b4
  clear b1 b2 b3 b4
  have HW := Hd.mk hW
  go_enter Try.func48, Try.ntmps48
  go_upto_region 1 with fail
  clear hW HW
  go_wp2_with fail
  refine (HN.out _).mono ?_; rintro en w' ⟨rfl, rfl⟩
  go_wp2_with fail
  refine (HI.out _).mono ?_; rintro en w' ⟨rfl, rfl⟩
  have fz := B2.out.frozen
  go_wp2_with fail
  have HG : Hd (Dgs W a d) := ⟨HD.out.below B3.out⟩
  refine bodyPost_ret (v := .agg #[.int .i64 st, .bool s, .slice a n c, .int .i64 e]) (by simp [results, Try.results48, go_sem, y0, y1, y2, y3]) rfl ⟨rfl, HG.out.stored4 B2.out _ _ _ _, ?_⟩
  repeat (refine Below.setCell ?_ (by simp) _)
  exact B3.out

set_option maxHeartbeats 1600000 in
set_option maxRecDepth 100000 in
/-- A number is added where no infinity came. -/
theorem r3add_num (s : Bool) (a : Option Addr) (d c : Nat) (e : Int) (u : Nat) (hu : F64 u) (hf : fin u = true) (w : World) (hd : Dgs w a d) (hs : nd d ≤ 140) (l : -2148 ≤ e) (r : e ≤ 2000)
    (z : Int) (hv : sg s (d * 2 ^ (e + 2148).toNat) = z) (hz : AccB (z + aZ u)) :
    Calls Try.prog 48 #[.agg #[.int .i64 0, .bool s, .slice a (nd d) c, .int .i64 e], .int .u64 u] w (R3Ret (z + aZ u) false false w) := by
  have HN := Hd.mk (rIsNaN_any u hu)
  rw [nn_fin u hf] at HN
  have HI := Hd.mk (rIsInf_any u hu)
  rw [show inf u = false by unfold fin INF at hf; unfold inf; simp at hf ⊢; omega] at HI
  have HO := Hd.mk (of_any u hu)
  obtain ⟨v1, v2, v3⟩ := of_val u hu hf
  have hm : nd (mnt u) ≤ 10000 := Nat.le_trans (nd_le (n := 2) (by have := mnt_lt u; rw [BB_pow]; exact Nat.lt_trans this (by decide))) (by decide)
  generalize (ng u && !(mnt u == 0)) = s' at *
  generalize (if mnt u = 0 then 0 else exq u) = e' at *
  generalize mnt u = M at *
  have HPl := Hd.mk fun a' c' w1 h h' => plus_any s a d c e s' a' M c' e' w1 h h' (by omega) hm (by omega) (by omega)
  obtain ⟨E, hE⟩ : ∃ E, plE d e M e' = E := ⟨_, rfl⟩
  obtain ⟨A, hA⟩ : ∃ A, lowN d e E = A := ⟨_, rfl⟩
  obtain ⟨B, hB⟩ : ∃ B, lowN M e' E = B := ⟨_, rfl⟩
  obtain ⟨p1, p2, p3⟩ := plus_val s d e s' M e' l v1 r (by omega) E A B hE hA hB
  rw [hE, hA, hB] at HPl
  rw [hv, v3] at p3
  generalize sumS s A s' B = S at *
  generalize sumD s A s' B = K at *
  generalize sumE s A s' B E = E4 at *
  have hK : nd K ≤ 140 := by
    refine AccB_nd hz ?_
    rw [← p3, sg_natAbs]
    exact Nat.le_mul_of_pos_right _ (Nat.pow_pos (by decide))
  have HV := Hd.mk p3
  have HD := Hd.mk hd
  obtain ⟨n, hnd⟩ : ∃ n, nd d = n := ⟨_, rfl⟩
  rw [hnd] at HPl ⊢
  obtain ⟨st, hst⟩ : ∃ st : Int, st = 0 := ⟨_, rfl⟩
  rw [← hst]
  have hs0 : (st != 0) = false := by rw [hst]; rfl
  have HK := Hd.mk (And.intro hK (And.intro p1 p2))
  clear hu hf hd hs l r hv hz v1 v2 v3 hm hE hA hB p1 p2 p3 hK hnd hst
  obtain ⟨W, hW, b1, b2, b3, b4⟩ := two_boxes w st s a n c e
  have c1 := b1.cell
  have c2 := b2.cell
  have B1 := Hd.mk b1
  have B2 := Hd.mk b2
  have B3 := Hd.mk b3
  obtain ⟨x0, x1, x2, x3⟩ := c1
  obtain ⟨y0, y1, y2, y3⟩ := c2
  have HS := Hd.mk b4
  clear b1 b2 b3 b4
  have HW := Hd.mk hW
  go_enter Try.func48, Try.ntmps48
  go_upto_region 1 with fail
  clear hW HW
  go_wp2_with fail
  refine (HN.out _).mono ?_; rintro en w' ⟨rfl, rfl⟩
  go_wp2_with fail
  refine (HI.out _).mono ?_; rintro en w' ⟨rfl, rfl⟩
  go_wp2_with fail
  have fz := B2.out.frozen
  have HG : Hd (Dgs W a d) := ⟨HD.out.below B3.out⟩
  have GD : Hd (Dgs W.drew a d) := ⟨HG.out.keep fun _ _ _ h => h⟩
  go_region_held3 (fun w' => w'.cell? ⟨w.heap.size, 1, none⟩ = some (.bool s) ∧ w'.cell? ⟨w.heap.size, 2, none⟩ = some (.slice a n c) ∧ w'.cell? ⟨w.heap.size, 3, none⟩ = some (.int .i64 e)) (first | exact ⟨x1, x2, x3⟩ | exact ⟨d1, d2, d3⟩ | exact ⟨g1, g2, g3⟩ | (refine ⟨?_, ?_, ?_⟩ <;> go_simp)) (
    first
    | (
    go_at_call 99
    refine (HO.out _).mono ?_
    rintro en w3 ⟨a2, k2, rfl, hd2, hb2⟩
    have C1 := Hd.mk ((show Box3 W.drew _ _ _ _ _ _ _ from B1.out).below hb2)
    have C2 := Hd.mk ((show Box3 W.drew _ _ _ _ _ _ _ from B2.out).below hb2)
    have D1 := Hd.mk (GD.out.below hb2)
    have D2 := Hd.mk hd2
    have D3 := Hd.mk (B3.out.drew.trans (hb2.mono B3.out.size))
    have d1 := C1.out.cell.2.1
    have d2 := C1.out.cell.2.2.1
    have d3 := C1.out.cell.2.2.2
    clear hd2 hb2)
    | (
    go_at_call 98
    refine (HPl.out _ _ _ D1.out D2.out).mono ?_
    rintro en w4 ⟨a4, k4, rfl, hd4, hb4⟩
    have F1 := Hd.mk (C1.out.below hb4)
    have F2 := Hd.mk (C2.out.below hb4)
    have F3 := Hd.mk hd4
    have F4 := Hd.mk (D3.out.trans (hb4.mono D3.out.size))
    have g1 := F1.out.cell.2.1
    have g2 := F1.out.cell.2.2.1
    have g3 := F1.out.cell.2.2.2
    have r0 := F2.out.cell.1
    have r1 := F2.out.cell.2.1
    have r2 := F2.out.cell.2.2.1
    have r3 := F2.out.cell.2.2.2
    have fz4 := F2.out.frozen
    clear hd4 hb4))
  go_wp2_with fail
  have HR : Hd (∀ w5, Dgs w5 a4 K → R3 w5 S a4 K E4 (z + aZ u) false false) := ⟨fun w5 h => ⟨h, HK.out.1, HK.out.2.1, HK.out.2.2, fun _ _ => HV.out⟩⟩
  refine bodyPost_ret (v := .agg #[.int .i64 0, .bool S, .slice a4 (nd K) k4, .int .i64 E4]) (by simp [results, Try.results48, go_sem, r0, r1, r2, r3]) rfl ⟨S, a4, K, k4, E4, rfl, HR.out _ (F3.out.stored4 F2.out _ _ _ _), ?_⟩
  repeat (refine Below.setCell ?_ (by simp) _)
  exact F4.out

end Go.Proofs.Ytpegicgahbambaa

/- AccGone's walk. -/
namespace Go.Proofs.Ytpegicgahbambaa
open Go.RowKit
set_option linter.unusedSimpArgs false
set_option linter.unusedVariables false

theorem ksub_eq (x : Nat) (hx : F64 x) (w : World) : (FloatKind.f64.format.order (fres .sub x x w) 0 == some .eq) = fin x := by
  have h : cn (fres .sub x x w) = if fin x then 0 else NaNc := by rw [cn_fsub _ _ _ hx hx]; exact fsub_self x hx
  cases c : fin x
  · rw [c] at h
    have hn : nn (fres .sub x x w) = true := by rw [← nn_cn, h]; decide +kernel
    rw [feq _ 0 (F64_fres .sub x x w) F64_0, hn]; rfl
  · rw [c] at h
    have e : fres .sub x x w = 0 := of_cn (h.trans (if_pos rfl)) (by decide +kernel)
    rw [e]; decide +kernel
theorem ksub_ne (x : Nat) (hx : F64 x) (w : World) : (FloatKind.f64.format.order (fres .sub x x w) 0 != some .eq) = !fin x := by
  rw [bne, ksub_eq x hx w]

theorem small_bd (n : Nat) (h : n ≤ 1000) : n ≤ 2 ^ 150 :=
  Nat.le_trans h (Nat.le_trans (show 1000 ≤ 2 ^ 10 by decide) (Nat.pow_le_pow_right (by decide) (by decide)))

set_option maxHeartbeats 3200000 in
set_option maxRecDepth 100000 in
theorem accGone_any (a : Option Addr) (l : List Nat) (c : Nat) (a' : Option Addr) (m : List Nat) (c' : Nat) (w : World) (hl : Fls w a l) (hm : Fls w a' m) :
    Calls Try.prog 12 #[.slice a l.length c, .slice a' m.length c'] w fun e w' => e = .returned (.bool true) ∧ Below w.heap.size w w' := by
  have HL := Hd.mk hl
  have HM := Hd.mk hm
  have hlen := hl.len
  have hlen' := hm.len
  obtain ⟨n, hn⟩ : ∃ n, l.length = n := ⟨_, rfl⟩
  obtain ⟨n', hn'⟩ : ∃ n, m.length = n := ⟨_, rfl⟩
  rw [hn] at hlen ⊢
  rw [hn'] at hlen' ⊢
  have HN := Hd.mk hn
  have HN' := Hd.mk hn'
  clear hl hm hn hn'
  go_enter Try.func12, Try.ntmps12
  go_wp2_with fail
  refine (new_any _).mono ?_; rintro e w1 ⟨b1, rfl, hb1, hacc, hb⟩
  have A1 := Hd.mk hacc
  have B1 := Hd.mk hb
  have L1 := Hd.mk hb1
  clear hacc hb hb1
  go_wp2_with fail
  refine (new_any _).mono ?_; rintro e w2 ⟨b2, rfl, hb2, hacc, hb⟩
  have A1' := Hd.mk (A1.out.below hb)
  have A2 := Hd.mk hacc
  have B2 := Hd.mk (B1.out.trans (hb.mono B1.out.size))
  have L2 := Hd.mk (Nat.le_trans B1.out.size hb2)
  have L12 := Hd.mk (show b1 ≠ b2 from fun e => by have := A1.out.lt; omega)
  clear hacc hb hb2 A1 B1
  have done : ∀ wr, Below w.heap.size w wr → Calls Try.prog 22 #[] wr fun e w' => e = .returned (.bool true) ∧ Below w.heap.size w w' := fun wr hb => (awake3_any wr).mono fun e w' ⟨h1, h2⟩ => ⟨h1, hb.trans (h2.mono hb.size)⟩
  have HDn := Hd.mk done
  clear done
  by_cases hc1 : 200 < n
  · have hd : decide ((n : Int) > 200) = true := by simp; omega
    go_wp2_with fail
    refine (HDn.out _ B2.out).mono ?_; rintro e w3 ⟨rfl, hb⟩
    have B3 := Hd.mk hb
    clear hb
    go_wp2_with fail
    go_ret
    exact ⟨rfl, B3.out⟩
  have hd1 : decide ((n : Int) > 200) = false := by simp; omega
  by_cases hc2 : 200 < n'
  · have hd : decide ((n' : Int) > 200) = true := by simp; omega
    go_wp2_with fail
    refine (HDn.out _ B2.out).mono ?_; rintro e w3 ⟨rfl, hb⟩
    have B3 := Hd.mk hb
    clear hb
    go_wp2_with fail
    go_ret
    exact ⟨rfl, B3.out⟩
  have hd2 : decide ((n' : Int) > 200) = false := by simp; omega
  have hn1 : n ≤ 200 := by omega
  clear hc1 hc2
  go_wp2_with fail
  go_loopw [7] (fun iv wr => ∃ (k : Nat) (Z : Int), k ≤ n ∧ iv = .int .i64 k ∧ Hd (AccIs wr b1 Z false false) ∧ Hd (AccIs wr b2 0 false false) ∧ Hd (Bd (2 * k) Z) ∧ Hd (Below w.heap.size w wr)) (fun iv _ => n - (intOf iv).toNat)
  case atStart => exact ⟨0, 0, Nat.zero_le _, rfl, A1', A2, ⟨Bd.zero _⟩, B2⟩
  case round =>
    clear A1' A2 B2
    obtain ⟨k, Z, hk, rfl, HA, HA2, HZ, HB⟩ := hrel
    by_cases hlt : k < n
    · obtain ⟨b, o, ha, hc⟩ := (HL.out.belowK HB.out).at k (by rw [HN.out]; exact hlt)
      subst ha
      have hlt' : (k : Int) < n := by omega
      have HX := Hd.mk (HL.out.wf k)
      have k0 : (0 : Int) ≤ k := by omega
      obtain ⟨x, hxe⟩ : ∃ x, l.getD k 0 = x := ⟨_, rfl⟩
      have HXe := Hd.mk hxe
      rw [hxe] at HX hc
      clear hxe
      have HT : Hd (∀ w, (FloatKind.f64.format.order (fres .sub x x w) 0 != some .eq) = !fin x) := ⟨ksub_ne x HX.out⟩
      cases hfx : fin x <;> rw [hfx] at HT
      · have ht := HT.out
        clear hlt
        go_upto_region 8 with fail
        go_region
        go_wp2_with fail
        refine (HDn.out _ (below_drewN HB.out _)).mono ?_; rintro e w3 ⟨rfl, hb⟩
        have B3 := Hd.mk hb
        clear hb
        go_wp2_with fail
        go_ret
        exact ⟨rfl, B3.out⟩
      · have ht := HT.out
        clear hlt
        have fx := flagB_fin x hfx
        have HAd := Hd.mk fun w' h => accAdd_any b1 Z false false x w' h HX.out
        rw [fx.1, fx.2] at HAd
        clear fx
        go_upto_region 8 with fail
        go_region
        go_wp2_with fail
        refine (HAd.out _ (HA.out.drewN _)).mono ?_; rintro e w3 ⟨rfl, hacc, ho⟩
        have HA3 := Hd.mk hacc
        have HA3' := Hd.mk (AccIs.only (HA2.out.drewN _) ho (Ne.symm L12.out))
        have HB3 := Hd.mk (Only.below (below_drewN HB.out _) L1.out ho HB.out.size)
        have HZ3 := Hd.mk (HZ.out.add (Bd.aZ HX.out))
        clear hacc ho
        have H1 := Hd.mk (show k + 1 ≤ n ∧ n - (k + 1) < n - k by omega)
        have HW3 : w3.drew = w3.drew := rfl
        by_cases hkn : k < n'
        · have hd3 : decide (k < n') = true := by simp; omega
          have hkn' : (k : Int) < n' := by omega
          obtain ⟨b', o', ha', hc'⟩ := (HM.out.belowK HB3.out).at k (by rw [HN'.out]; exact hkn)
          subst ha'
          have HY := Hd.mk (HM.out.wf k)
          generalize m.getD k 0 = y at *
          have HTy : Hd (∀ w, (FloatKind.f64.format.order (fres .sub y y w) 0 == some .eq) = fin y) := ⟨ksub_eq y HY.out⟩
          have hc3 : w3.drew.cell? ⟨b', o' + k, none⟩ = some (.float .f64 y) := hc'
          obtain ⟨b5, o5, he, hx3⟩ := (HL.out.belowK HB3.out).at k (by rw [HN.out]; omega)
          obtain ⟨rfl, rfl⟩ : b = b5 ∧ o = o5 := by simpa using he
          rw [HXe.out] at hx3
          clear he
          clear hkn hc
          cases hfy : fin y <;> rw [hfy] at HTy
          · have ht2 := HTy.out
            go_upto_region 11 with fail
            refine wp_region_still_tail 13 (by kernel_rfl) (by kernel_rfl) ?_
            simp only [List.take_succ_cons, List.take_zero, List.drop_succ_cons, List.drop_zero]
            change wpStill _ _ w3.drew _ _ _
            iterate 13 still_step
            refine wpStill_nil ?_
            change wpList _ _ _ _ _ w3.drew
            go_wp2_with fail
            exact ⟨⟨k + 1, _, H1.out.1, by go_num, ⟨HA3.out.drewN _⟩, ⟨HA3'.out.drewN _⟩, ⟨HZ3.out.mono (by omega)⟩, ⟨below_drewN HB3.out _⟩⟩, by simp [intOf]; omega⟩
          · have ht2 := HTy.out
            have HPr := Hd.mk fun w' h => accProd_any b1 (Z + aZ x) false false x y w' h HX.out HY.out
            rw [show puB x y = false by unfold puB; rw [hfx, hfy]; rfl, show pdB x y = false by unfold pdB; rw [hfx, hfy]; rfl] at HPr
            have HZ4 := Hd.mk (HZ3.out.add (Bd.pZ HX.out HY.out))
            go_upto_region 11 with fail
            refine wp_region_still_tail 13 (by kernel_rfl) (by kernel_rfl) ?_
            simp only [List.take_succ_cons, List.take_zero, List.drop_succ_cons, List.drop_zero]
            change wpStill _ _ w3.drew _ _ _
            iterate 13 still_step
            refine wpStill_nil ?_
            change wpList _ _ _ _ _ w3.drew
            go_wp2_with fail
            have hcx : (w3.drewN (1 + fcnt .sub y y)).drew.cell? ⟨b, o + k, none⟩ = some (.float .f64 x) := hx3
            have hcy : (w3.drewN (1 + fcnt .sub y y)).drew.cell? ⟨b', o' + k, none⟩ = some (.float .f64 y) := hc'
            refine wp_region_still_tail 9 (by kernel_rfl) (by kernel_rfl) ?_
            simp only [List.take_succ_cons, List.take_zero, List.drop_succ_cons, List.drop_zero]
            change wpStill _ _ (w3.drewN (1 + fcnt .sub y y)).drew _ _ _
            iterate 9 still_step
            refine wpStill_nil ?_
            change wpList _ _ _ _ _ (w3.drewN (1 + fcnt .sub y y)).drew
            go_wp2_with fail
            refine (HPr.out _ (HA3.out.drewN _)).mono ?_; rintro e w5 ⟨rfl, hacc, ho⟩
            have HA5 := Hd.mk hacc
            have HA5' := Hd.mk (AccIs.only (HA3'.out.drewN _) ho (Ne.symm L12.out))
            have HB5 := Hd.mk (Only.below (below_drewN HB3.out _) L1.out ho HB3.out.size)
            clear hacc ho
            go_wp2_with fail
            exact ⟨⟨k + 1, _, H1.out.1, by go_num, HA5, HA5', ⟨HZ4.out.mono (by omega)⟩, HB5⟩, by simp [intOf]; omega⟩
        · have hd3 : decide (k < n') = false := by simp; omega
          clear hkn
          go_upto_region 11 with fail
          go_quiet (fail)
          go_wp2_with fail
          exact ⟨⟨k + 1, _, H1.out.1, by go_num, ⟨HA3.out.drewN _⟩, ⟨HA3'.out.drewN _⟩, ⟨HZ3.out.mono (by omega)⟩, ⟨below_drewN HB3.out _⟩⟩, by simp [intOf]; omega⟩
    · have hge : (n : Int) ≤ k := by omega
      have HZB := Hd.mk (HZ.out.accB (small_bd _ (by omega)))
      have hm0 : Z + -Z = 0 := by omega
      have o1 : overA 0 false false 1 = 0 := by decide +kernel
      clear hlt
      go_wp2_with fail
      refine (copy_any b1 Z false false _ HA.out).mono ?_; rintro e w3 ⟨b3, rfl, hb3, hacc, hb⟩
      have A3 := Hd.mk hacc
      have A3' := Hd.mk (HA.out.below hb)
      have A3'' := Hd.mk (HA2.out.below hb)
      have B3 := Hd.mk (HB.out.trans (hb.mono HB.out.size))
      have L3 := Hd.mk (Nat.le_trans HB.out.size hb3)
      have L13 := Hd.mk (show b1 ≠ b3 from fun e => by have := HA.out.lt; omega)
      have L23 := Hd.mk (show b2 ≠ b3 from fun e => by have := HA2.out.lt; omega)
      clear hacc hb hb3
      go_wp2_with fail
      refine (turn_any b3 Z false false _ A3.out).mono ?_; rintro e w4 ⟨rfl, hacc, ho⟩
      have A4 := Hd.mk hacc
      have A4' := Hd.mk (A3'.out.only ho L13.out)
      have A4'' := Hd.mk (A3''.out.only ho L23.out)
      have B4 := Hd.mk (Only.below B3.out L3.out ho B3.out.size)
      clear hacc ho
      go_wp2_with fail
      refine (merge_any b1 Z false false b3 (-Z) false false _ A4'.out A4.out).mono ?_; rintro e w5 ⟨rfl, hacc, ho⟩
      rw [hm0] at hacc
      have A5 := Hd.mk hacc
      have A5'' := Hd.mk (A4''.out.only ho (Ne.symm L12.out))
      have B5 := Hd.mk (Only.below B4.out L1.out ho B4.out.size)
      clear hacc ho
      go_wp2_with fail
      refine (sign_any b1 0 (false || false) (false || false) _ A5.out AccB_zero).mono ?_; rintro e w' ⟨rfl, rfl⟩
      rw [show asgn 0 (false || false) (false || false) = 0 from rfl]
      go_wp2_with fail
      refine (same_any b1 0 (false || false) (false || false) b2 0 false false _ A5.out A5''.out AccB_zero AccB_zero).mono ?_; rintro e w' ⟨rfl, m1, rfl⟩
      rw [show asame 0 (false || false) (false || false) 0 false false = true from rfl]
      go_wp2_with fail
      refine (value_any b1 0 (false || false) (false || false) _ (A5.out.drewN _) AccB_zero).mono ?_; rintro e w6 ⟨rfl, hb⟩
      rw [show overA 0 (false || false) (false || false) 1 = 0 from o1]
      have B6 := Hd.mk ((below_drewN B5.out m1).trans (hb.mono B5.out.size))
      clear hb
      go_wp2_with fail
      refine (apiBits_any _ _).mono ?_; rintro en w' ⟨rfl, rfl⟩
      go_wp2_with fail
      refine (HDn.out _ B6.out).mono ?_; rintro e w7 ⟨rfl, hb⟩
      have B7 := Hd.mk hb
      clear hb
      go_wp2_with fail
      go_ret
      exact ⟨rfl, B7.out⟩

end Go.Proofs.Ytpegicgahbambaa

/- A []float64 that came in, opened: its elements' bits as a list. -/
namespace Go.Proofs.Ytpegicgahbambaa
open Go.ChangeShapes Go.WideShapes Go.ChangeAt Go.RowKit

theorem trod_float {H : Type} {enc : TypeId × Value → H} {P : Program} {w : World} {base : Nat} {spare : Nat → Bool} {held : Bool} {fuel : Nat} {t : TypeId} {v : Value} {x : DataW H × List MemPlace}
    (ht : P.underlying t = some (.float .f64)) (h : DataW.trod enc P w base spare held fuel t [v] = some x) : ∃ b, v = .float .f64 b ∧ F64 b := by
  cases fuel with
  | zero => simp [DataW.trod] at h
  | succ n =>
    simp only [DataW.trod, ht] at h
    split at h <;> simp_all
    obtain ⟨⟨hk, hw⟩, _⟩ := h
    subst_vars
    exact ⟨by simpa [Lit.wf] using hw⟩

theorem open_floats {H : Type} {enc : TypeId × Value → H} {P : Program} {w : World} {spare : Nat → Bool} {held : Bool} {t e : TypeId} {a : Option Addr} {len cap : Nat} {d : DataW H} {ps : List MemPlace}
    (ht : P.underlying t = some (.slice e)) (he : P.underlying e = some (.float .f64)) (hc : P.cellsOf e = 1) (h : DataW.Trod enc P w 0 spare held t (.slice a len cap) d ps) :
    ∃ l : List Nat, len = l.length ∧ Fls w a l := by
  obtain ⟨fuel, hf⟩ := h
  simp only [Value.cells] at hf
  rcases Go.Deep.open_slice1 ht hc hf with ⟨hcs, _⟩ | ⟨x, l, c, m, n, V, D, Pl, hcs, _, hl, hm, hmm, _, hx⟩
  · simp at hcs
    obtain ⟨rfl, rfl, rfl⟩ := hcs
    exact ⟨[], rfl, { nil := fun _ => rfl, cell := fun b o v h => by simp at h, wf := fun i => ⟨by simp⟩, len := by simp }⟩
  · simp at hcs
    obtain ⟨rfl, rfl, rfl⟩ := hcs
    have hle : len ≤ m := by rw [hmm]; split <;> omega
    have hb : ∀ i, i < len → ∃ b, V i = .float .f64 b ∧ F64 b := fun i hi => trod_float he (hx i (by omega)).2
    obtain ⟨f, hff⟩ := Go.Deep.choose_lt hb
    obtain ⟨b, o, s⟩ := x
    have hs : ∀ i, i < len → w.cell? (Addr.add ⟨b, o, s⟩ i) = some (.float .f64 (f i)) := fun i hi => by rw [(hx i (by omega)).1, (hff i hi).1]
    refine ⟨(List.range len).map f, by simp, { nil := fun h => by simp at h, cell := ?_, wf := ?_, len := ?_ }⟩
    · intro b' o' v' e i hi
      simp at e hi
      obtain ⟨rfl, rfl, rfl⟩ := e
      have hsp : s = none := by
        have := hs 0 (by omega)
        simpa [Addr.add] using World.cell?_spot this
      subst hsp
      refine ⟨rfl, ?_⟩
      have h1 := hs i hi
      have h2 : (Addr.add ⟨b, o, none⟩ i) = ⟨b, o + i, none⟩ := by
        by_cases h0 : i = 0 <;> simp [Addr.add, h0]
      rw [← h2, h1]
      simp [hi]
    · intro i
      by_cases hi : i < len
      · simp [hi]; exact (hff i hi).2
      · simp [hi]; exact ⟨by decide⟩
    · simp; unfold maxLen at hm; omega

end Go.Proofs.Ytpegicgahbambaa

/- Slices that came in, opened, with what their room is. -/
namespace Go.Proofs.Ytpegicgahbambaa
open Go.ChangeShapes Go.WideShapes Go.ChangeAt Go.RowKit

/-- A slice's length and room. -/
structure Room (a : Option Addr) (len cap : Nat) : Prop where
  le : len ≤ cap
  max : cap ≤ 9223372036854775807
  nil : a = none → cap = 0

theorem open_room {H : Type} {enc : TypeId × Value → H} {P : Program} {w : World} {spare : Nat → Bool} {held : Bool} {t e : TypeId} {a : Option Addr} {len cap : Nat} {d : DataW H} {ps : List MemPlace}
    (ht : P.underlying t = some (.slice e)) (hc : P.cellsOf e = 1) (h : DataW.Trod enc P w 0 spare held t (.slice a len cap) d ps) : Room a len cap := by
  obtain ⟨fuel, hf⟩ := h
  simp only [Value.cells] at hf
  rcases Go.Deep.open_slice1 ht hc hf with ⟨hcs, _⟩ | ⟨x, l, c, m, n, V, D, Pl, hcs, _, hl, hm, hmm, _, hx⟩
  · simp at hcs
    obtain ⟨rfl, rfl, rfl⟩ := hcs
    exact ⟨Nat.le_refl _, by decide, fun _ => rfl⟩
  · simp at hcs
    obtain ⟨rfl, rfl, rfl⟩ := hcs
    exact ⟨hl, Nat.le_trans hm (by unfold maxLen; decide), fun e => by cases e⟩

/-- A slice of ints. -/
structure Ins (w : World) (a : Option Addr) (l : List Int) : Prop where
  cell : ∀ k, k < l.length → ∃ b o, a = some ⟨b, o, none⟩ ∧ w.cell? ⟨b, o + k, none⟩ = some (.int .i64 (l.getD k 0))
  wf : ∀ k, -9223372036854775808 ≤ l.getD k 0 ∧ l.getD k 0 ≤ 9223372036854775807
  len : l.length ≤ 9223372036854775807

theorem open_intl {H : Type} {enc : TypeId × Value → H} {P : Program} {w : World} {spare : Nat → Bool} {held : Bool} {t e : TypeId} {a : Option Addr} {len cap : Nat} {d : DataW H} {ps : List MemPlace}
    (ht : P.underlying t = some (.slice e)) (he : P.underlying e = some (.int .i64)) (hc : P.cellsOf e = 1) (h : DataW.Trod enc P w 0 spare held t (.slice a len cap) d ps) :
    ∃ l : List Int, len = l.length ∧ Ins w a l := by
  obtain ⟨fuel, hf⟩ := h
  simp only [Value.cells] at hf
  rcases Go.Deep.open_slice1 ht hc hf with ⟨hcs, _⟩ | ⟨x, l, c, m, n, V, D, Pl, hcs, _, hl, hm, hmm, _, hx⟩
  · simp at hcs
    obtain ⟨rfl, rfl, rfl⟩ := hcs
    exact ⟨[], rfl, { cell := fun k h => by simp at h, wf := fun i => by simp, len := by simp }⟩
  · simp at hcs
    obtain ⟨rfl, rfl, rfl⟩ := hcs
    have hle : len ≤ m := by rw [hmm]; split <;> omega
    have hb : ∀ i, i < len → ∃ b, V i = .int .i64 b ∧ (-9223372036854775808 ≤ b ∧ b ≤ 9223372036854775807) := fun i hi => by
      obtain ⟨b, h1, _, h2⟩ := DataW.trod_int he (hx i (by omega)).2
      simp at h1
      refine ⟨b, h1, ?_⟩
      have h3 : (IntKind.i64).min = -9223372036854775808 := by decide
      have h4 : (IntKind.i64).max = 9223372036854775807 := by decide
      simp only [Lit.wf, Bool.and_eq_true, decide_eq_true_eq, h3, h4] at h2
      exact h2
    obtain ⟨f, hff⟩ := Go.Deep.choose_lt hb
    obtain ⟨b, o, s⟩ := x
    have hs : ∀ i, i < len → w.cell? (Addr.add ⟨b, o, s⟩ i) = some (.int .i64 (f i)) := fun i hi => by rw [(hx i (by omega)).1, (hff i hi).1]
    refine ⟨(List.range len).map f, by simp, { cell := ?_, wf := ?_, len := ?_ }⟩
    · intro i hi
      simp at hi
      have hsp : s = none := by
        have := hs 0 (by omega)
        simpa [Addr.add] using World.cell?_spot this
      subst hsp
      refine ⟨b, o, rfl, ?_⟩
      have h1 := hs i hi
      have h2 : (Addr.add ⟨b, o, none⟩ i) = ⟨b, o + i, none⟩ := by
        by_cases h0 : i = 0 <;> simp [Addr.add, h0]
      rw [← h2, h1]
      simp [hi]
    · intro i
      by_cases hi : i < len
      · simp [hi]; exact (hff i hi).2
      · simp [hi]
    · simp; unfold maxLen at hm; omega

end Go.Proofs.Ytpegicgahbambaa

/- AccOrder's list in another order: the walk of tenorlaw3.shuffled. -/
namespace Go.Proofs.Ytpegicgahbambaa
open Go.RowKit
set_option linter.unusedSimpArgs false
set_option linter.unusedVariables false

/-- A row of floats of the call's own: its first cells are the list m. -/
structure FRow (w : World) (g cap : Nat) (m : List Nat) : Prop where
  le : m.length ≤ cap
  max : cap ≤ 9223372036854775807
  row : ∃ J : Nat → Value, w.rowIs g 22 cap (fun i => if i < m.length then .float .f64 (m.getD i 0) else J i)
  wf : ∀ i, F64 (m.getD i 0)
theorem FRow.lt {w : World} {g cap : Nat} {m : List Nat} (h : FRow w g cap m) : g < w.heap.size := by
  obtain ⟨J, hr⟩ := h.row
  exact World.rowIs.lt hr
theorem FRow.frozen {w : World} {g cap : Nat} {m : List Nat} (h : FRow w g cap m) (i : Nat) : w.frozen? ⟨g, i, none⟩ = false := by
  obtain ⟨J, hr⟩ := h.row
  exact World.rowIs.frozen hr i
theorem FRow.cell {w : World} {g cap : Nat} {m : List Nat} (h : FRow w g cap m) (i : Nat) (hi : i < m.length) : w.cell? ⟨g, i, none⟩ = some (.float .f64 (m.getD i 0)) := by
  obtain ⟨J, hr⟩ := h.row
  have := World.rowIs.cell hr (Nat.lt_of_lt_of_le hi h.le)
  rw [if_pos hi] at this
  exact this
theorem FRow.fls {w : World} {g cap : Nat} {m : List Nat} (h : FRow w g cap m) : Fls w (some ⟨g, 0, none⟩) m where
  nil := fun e => by cases e
  cell := fun b o v e i hi => by cases e; exact ⟨rfl, by rw [Nat.zero_add]; exact h.cell i hi⟩
  wf := h.wf
  len := Nat.le_trans h.le h.max
theorem getD_set (m : List Nat) (i y j : Nat) (hi : i < m.length) : (m.set i y).getD j 0 = if j = i then y else m.getD j 0 := by
  simp only [List.getD_eq_getElem?_getD, List.getElem?_set]
  by_cases h : i = j
  · subst h; simp [hi]
  · have : ¬ j = i := fun e => h e.symm
    simp [h, this]
theorem FRow.set {w : World} {g cap : Nat} {m : List Nat} (h : FRow w g cap m) (i y : Nat) (hi : i < m.length) (hy : F64 y) : FRow (w.setCell ⟨g, i, none⟩ (.float .f64 y)) g cap (m.set i y) where
  le := by rw [List.length_set]; exact h.le
  max := h.max
  row := by
    obtain ⟨J, hr⟩ := h.row
    refine ⟨J, (World.rowIs.set hr i (.float .f64 y)).congr fun j hj => ?_⟩
    rw [List.length_set]
    by_cases e : j = i
    · subst e; rw [if_pos rfl, if_pos hi, getD_set _ _ _ _ hi, if_pos rfl]
    · rw [if_neg e, getD_set _ _ _ _ hi, if_neg e]
  wf := fun j => by rw [getD_set _ _ _ _ hi]; split; exact hy; exact h.wf j
theorem FRow.drew {w : World} {g cap : Nat} {m : List Nat} (h : FRow w g cap m) : FRow w.drew g cap m := ⟨h.le, h.max, h.row, h.wf⟩

/-- A list of floats as cells. -/
theorem FRow.of_own {w : World} {base n : Nat} {v : Value} {m : List Nat} (h : w.ownsRow base 22 1 v n (m.map (Value.float .f64))) (hw : ∀ i, F64 (m.getD i 0)) (h0 : v ≠ .slice none 0 0) :
    ∃ g cap, v = .slice (some ⟨g, 0, none⟩) m.length cap ∧ base ≤ g ∧ FRow w g cap m := by
  obtain ⟨hl, h | ⟨g, cap, cur, rfl, hg, hh, hn, hc, hs, ht⟩⟩ := h
  · exact absurd h.1 h0
  rw [List.length_map, Nat.mul_one] at hl
  subst hl
  rw [Nat.mul_one] at hs ht
  refine ⟨g, cap, rfl, hg, hn, Nat.le_trans hc (by unfold maxLen; decide), ⟨fun i => cur.getD i undef, cur, hh, hs, fun i hi => ?_⟩, hw⟩
  show cur[i]? = some (if i < m.length then Value.float FloatKind.f64 (m.getD i 0) else cur.getD i undef)
  by_cases e : i < m.length
  · rw [if_pos e]
    have := congrArg (fun l : List Value => l[i]?) ht
    simp only [List.getElem?_take_of_lt e, List.getElem?_map] at this
    rw [← Array.getElem?_toList, this]
    simp [List.getElem?_eq_getElem e]
  · rw [if_neg e]
    rw [Array.getD_eq_getD_getElem?, Array.getElem?_eq_getElem (by omega)]
    rfl

theorem swap_perm (m : List Nat) (i j : Nat) (hi : i < m.length) (hj : j < m.length) : ((m.set i (m.getD j 0)).set j (m.getD i 0)).Perm m := by
  have := List.set_set_perm hi hj
  simpa [List.getD_eq_getElem?_getD, List.getElem?_eq_getElem hi, List.getElem?_eq_getElem hj] using this
theorem zS_perm {l m : List Nat} (h : l.Perm m) : zS l = zS m ∧ uS l = uS m ∧ dS l = dS m := by
  induction h with
  | nil => exact ⟨rfl, rfl, rfl⟩
  | cons x _ ih => exact ⟨congrArg (aZ x + ·) ih.1, by unfold uS at *; simp only [List.any_cons]; rw [ih.2.1], by unfold dS at *; simp only [List.any_cons]; rw [ih.2.2]⟩
  | swap x y l =>
    refine ⟨?_, ?_, ?_⟩
    · show aZ y + (aZ x + zS l) = aZ x + (aZ y + zS l)
      omega
    · unfold uS; simp only [List.any_cons]; rw [← Bool.or_assoc, Bool.or_comm (upB y), Bool.or_assoc]
    · unfold dS; simp only [List.any_cons]; rw [← Bool.or_assoc, Bool.or_comm (dnB y), Bool.or_assoc]
  | trans _ _ a b => exact ⟨a.1.trans b.1, a.2.1.trans b.2.1, a.2.2.trans b.2.2⟩

theorem place_mod (x : Int) (n : Nat) (hn : 0 < n) (hn2 : n ≤ 9223372036854775807 / 2) : ∃ K : Nat, K < n ∧ (x.tmod n + n).tmod n = (K : Int) ∧ -(n : Int) < x.tmod n ∧ x.tmod n < n := by
  have hp : (0 : Int) < n := by omega
  have h2 : x.tmod n < n := Int.tmod_lt_of_pos x hp
  have h1 : -(n : Int) < x.tmod n := by
    have h3 := Int.tmod_lt_of_pos (-x) hp
    rw [Int.neg_tmod] at h3
    omega
  refine ⟨((x.tmod n + n).tmod n).toNat, ?_, ?_, h1, h2⟩
  · have h3 : 0 ≤ x.tmod n + n := by omega
    have h4 := Int.tmod_lt_of_pos (x.tmod n + n) (show (0 : Int) < n by omega)
    have h5 := Int.tmod_nonneg n h3
    omega
  · have h3 : 0 ≤ x.tmod n + n := by omega
    have h5 := Int.tmod_nonneg n h3
    omega

theorem w_info8 : (Try.prog.info? 22).map (fun i => (i.zero, i.size, i.bytes)) = some (some (.float .f64 0), 1, 8) := by kernel_rfl

end Go.Proofs.Ytpegicgahbambaa

/- The walk of tenorlaw3.shuffled. -/
namespace Go.Proofs.Ytpegicgahbambaa
open Go.RowKit
set_option linter.unusedSimpArgs false
set_option linter.unusedVariables false

theorem below_grown {B : Nat} {a w w' : World} {row : Option Nat} (h : Below B a w) (g : w.grownBy w' row) (hr : ∀ k, row = some k → B ≤ k) (hB : B ≤ w.heap.size) : Below B a w' :=
  ⟨g.os.trans h.os, g.tape.trans h.tape, g.output.trans h.output, Nat.le_trans h.size g.size, fun k hk => (g.block k (by omega) (fun e => by have := hr k e.symm; omega)).trans (h.block k hk)⟩

/-- A slice with a list's floats in another order, in memory of its own. -/
def ShRet (l : List Nat) (w : World) (e : Ending) (w' : World) : Prop :=
  ∃ a c m, e = .returned (.slice a l.length c) ∧ m.Perm l ∧ Fls w' a m ∧ Below w.heap.size w w'
theorem fls_nil (w : World) : Fls w none [] := { nil := fun _ => rfl, cell := fun b o v h => by simp at h, wf := fun i => ⟨by simp⟩, len := by simp }
theorem floats_one (l : List Nat) : ∀ u ∈ l.map (Value.float .f64), u.oneCell' = true := by
  intro u hu
  obtain ⟨x, _, rfl⟩ := List.mem_map.1 hu
  rfl
theorem Fls.news {w : World} {b o : Nat} {l : List Nat} (h : Fls w (Option.some ⟨b, o, none⟩) l) (j : Nat) (u : Value) (hu : (l.map (Value.float .f64))[j]? = Option.some u) : w.cell? ((⟨b, o, none⟩ : Addr).add j) = Option.some u := by
  rw [List.getElem?_map] at hu
  by_cases e : j < l.length
  · rw [List.getElem?_eq_getElem e] at hu
    have h1 := (h.cell b o none rfl j e).2
    rw [show (⟨b, o, none⟩ : Addr).add j = ⟨b, o + j, none⟩ by by_cases h0 : j = 0 <;> simp [Addr.add, h0], h1]
    simp at hu
    rw [← hu]
    simp [List.getD_eq_getElem?_getD, List.getElem?_eq_getElem e]
  · rw [List.getElem?_eq_none (by omega)] at hu
    cases hu

@[go_sem] theorem run_store_float (P : Program) (w : World) (a : Addr) (m : Mode) (k : FloatKind) (x : Nat) : (store a (.float k x) m).run P w = stored P w a (.float k x) m := run_store P w a _ m rfl
theorem cell_lt {w : World} {b i : Nat} {v : Value} (h : w.cell? ⟨b, i, none⟩ = some v) : b < w.heap.size := by
  by_cases e : b < w.heap.size
  · exact e
  · unfold World.cell? at h
    rw [Array.getElem?_eq_none (Nat.le_of_not_lt e)] at h
    simp at h

set_option maxHeartbeats 1600000 in
set_option maxRecDepth 100000 in
theorem shuffled_nil (a : Option Addr) (c : Nat) (a' : Option Addr) (k c' : Nat) (w : World) (hz : a = none → c = 0) :
    Calls Try.prog 35 #[.slice a 0 c, .slice a' k c'] w (ShRet [] w) := by
  obtain ⟨i0, hi, hz0, hz1, hz2⟩ := info_parts w_info8
  cases a with
  | none =>
    have hc := hz rfl
    subst hc
    clear hz
    go_enter Try.func35, Try.ntmps35
    go_wp2_with (at_builtin; refine wpList_append_own_none rfl (.tmp 8) (.tmp 9) 36 rfl w.heap.size 22 i0 1 Try.underlying36 hi _ 0 [] rfl (World.ownsRow_nil _ _ _ _) rfl ?_)
    go_loopw [6] (fun iv wr => iv = .int .i64 0 ∧ wr = w) (fun iv _ => 0)
    case atStart => exact ⟨rfl, rfl⟩
    case round =>
      obtain ⟨rfl, rfl⟩ := hrel
      go_wp2_with fail
      go_ret
      exact ⟨none, 0, [], rfl, List.Perm.refl _, fls_nil _, Below.refl _ _⟩
  | some p =>
    clear hz
    obtain ⟨b, o, s⟩ := p
    go_enter Try.func35, Try.ntmps35
    go_wp2_with (at_builtin; refine wpList_append_own _ rfl (.tmp 8) (.tmp 9) 36 rfl w.heap.size 22 i0 (.float .f64 0) 1 8 Try.underlying36 hi hz0 hz1 hz2 rfl (by decide) _ 0 [] rfl (World.ownsRow_nil _ _ _ _) ⟨b, o, s⟩ 0 c [] rfl rfl (by simp) (by simp) (by decide) (by decide) (Nat.le_refl _) ?_)
    intro v' w1 ho hg he
    subst he
    have HB := Hd.mk (below_grown (Below.refl w.heap.size w) hg (fun k hk => by cases hk) (Nat.le_refl _))
    clear ho hg
    go_wp2_with fail
    go_loopw [6] (fun iv wr => iv = .int .i64 0 ∧ wr = w1) (fun iv _ => 0)
    case atStart => exact ⟨rfl, rfl⟩
    case round =>
      obtain ⟨rfl, rfl⟩ := hrel
      go_wp2_with fail
      go_ret
      exact ⟨none, 0, [], rfl, List.Perm.refl _, fls_nil _, HB.out⟩

set_option maxHeartbeats 1600000 in
set_option maxRecDepth 100000 in
theorem shuffled_any (a : Option Addr) (l : List Nat) (c : Nat) (a' : Option Addr) (by_ : List Int) (c' : Nat) (w : World) (hl : Fls w a l) (hy : Ins w a' by_) (hz : a = none → c = 0) (hn : l.length ≤ 1000) :
    Calls Try.prog 35 #[.slice a l.length c, .slice a' by_.length c'] w (ShRet l w) := by
  by_cases h0 : l.length = 0
  · obtain rfl : l = [] := List.length_eq_zero_iff.1 h0
    exact shuffled_nil a c a' _ c' w hz
  obtain ⟨i0, hi, hz0, hz1, hz2⟩ := info_parts w_info8
  obtain ⟨b, o, rfl, _⟩ := hl.at 0 (by omega)
  have HL := Hd.mk hl
  have HY := Hd.mk hy
  obtain ⟨n, hn'⟩ : ∃ n, l.length = n := ⟨_, rfl⟩
  obtain ⟨ny, hny⟩ : ∃ n, by_.length = n := ⟨_, rfl⟩
  have HX : Hd ((l.map (Value.float .f64)).length = n * 1 ∧ (∀ j u, (l.map (Value.float .f64))[j]? = some u → w.cell? ((⟨b, o, none⟩ : Addr).add j) = some u) ∧ (∀ u ∈ l.map (Value.float .f64), u.oneCell' = true)) := ⟨by rw [List.length_map, hn', Nat.mul_one], hl.news, floats_one l⟩
  have hlen := hy.len
  rw [hny] at hlen
  rw [hn'] at hn h0 ⊢
  rw [hny]
  have HN := Hd.mk hn'
  have HNY := Hd.mk hny
  clear hl hy hz hn' hny
  have HM : Hd (0 + n ≤ maxLen ∧ (0 + n) * 8 ≤ 140737488355328) := ⟨by unfold maxLen; omega, by omega⟩
  go_enter Try.func35, Try.ntmps35
  go_wp2_with (at_builtin; refine wpList_append_own _ rfl (.tmp 8) (.tmp 9) 36 rfl w.heap.size 22 i0 (.float .f64 0) 1 8 Try.underlying36 hi hz0 hz1 hz2 rfl (by decide) _ 0 [] rfl (World.ownsRow_nil _ _ _ _) ⟨b, o, none⟩ n c (l.map (Value.float .f64)) rfl HX.out.1 HX.out.2.1 HX.out.2.2 HM.out.1 HM.out.2 (Nat.le_refl _) ?_)
  intro v' w1 ho hg he
  try simp only [Nat.zero_add, List.nil_append] at ho
  obtain ⟨g, cap, rfl, hgb, hrow⟩ := FRow.of_own ho HL.out.wf (fun e => by simp [e] at he <;> omega)
  rw [HN.out]
  have HB := Hd.mk (below_grown (Below.refl w.heap.size w) hg (fun k hk => by cases hk) (Nat.le_refl _))
  have HR := Hd.mk hrow
  have HG := Hd.mk hgb
  have hcap := hrow.max
  have hcap' := hrow.le
  rw [HN.out] at hcap'
  clear ho hg he hrow hgb HX HM hi hz0 hz1 hz2
  go_wp2_with fail
  go_loopw [6] (fun iv wr => ∃ (i : Nat) (m : List Nat), i ≤ n ∧ iv = .int .i64 i ∧ Hd (m.Perm l) ∧ Hd (FRow wr g cap m) ∧ Hd (Below w.heap.size w wr)) (fun iv _ => n - (intOf iv).toNat)
  case atStart => exact ⟨0, l, Nat.zero_le _, rfl, ⟨List.Perm.refl _⟩, HR, HB⟩
  case round =>
    clear HR HB
    obtain ⟨i, m, hi, rfl, HP, HR, HB⟩ := hrel
    have HML := Hd.mk (HP.out.length_eq.trans HN.out)
    by_cases hlt : i < n
    · have hd1 : decide (i < n) = true := by simp; omega
      by_cases hlt2 : i < ny
      · have hd2 : decide (i < ny) = true := by simp; omega
        obtain ⟨yb, yo, ha', hyc⟩ := HY.out.cell i (by rw [HNY.out]; exact hlt2)
        subst ha'
        have hyb : yb < w.heap.size := cell_lt hyc
        have hyc' : wr.cell? ⟨yb, yo + i, none⟩ = some (.int .i64 (by_.getD i 0)) := by
          have := HB.out.block yb hyb
          unfold World.cell? at *
          rw [this]; exact hyc
        have HW := Hd.mk (HY.out.wf i)
        generalize by_.getD i 0 = x at *
        obtain ⟨K, hK, hKe, hx1, hx2⟩ := place_mod x n (by omega) (by omega)
        have hi1 := HR.out.cell i (by rw [HML.out]; exact hlt)
        have hi2 := HR.out.cell K (by rw [HML.out]; exact hK)
        have j1 : (i : Int) < n := by omega
        have j2 : (i : Int) < ny := by omega
        have j3 : (K : Int) < n := by omega
        have hn1 : (n : Int) ≤ 1000 := by omega
        have hn2 : (1 : Int) ≤ n := by omega
        have hn3 : ((n : Int) == 0) = false := by rw [beq_eq_false_iff_ne]; omega
        clear hlt hlt2 h0 hyb hyc
        have HS := Hd.mk fun x y hx hy => (HR.out.set i y (by rw [HML.out]; omega) hy).set K x (by rw [List.length_set, HML.out]; omega) hx
        have HS1 := Hd.mk (HS.out _ _ (HR.out.wf i) (HR.out.wf K))
        have HP1 := Hd.mk ((swap_perm m i K (by rw [HML.out]; omega) (by rw [HML.out]; omega)).trans HP.out)
        have HR2 := HR.out.set i (m.getD K 0) (by rw [HML.out]; omega) (HR.out.wf K)
        have hi3 := HR2.cell K (by rw [List.length_set, HML.out]; omega)
        rw [getD_set _ _ _ _ (by rw [HML.out]; omega), show (if K = i then m.getD K 0 else m.getD K 0) = m.getD K 0 by split <;> rfl] at hi3
        have fz3 := HR2.frozen K
        have hi1d : wr.drew.cell? ⟨g, i, none⟩ = _ := hi1
        have hi2d : wr.drew.cell? ⟨g, K, none⟩ = _ := hi2
        have fz1d : wr.frozen? ⟨g, i, none⟩ = false := HR.out.frozen i
        have fz2d : wr.frozen? ⟨g, K, none⟩ = false := HR.out.frozen K
        have fz1 : wr.drew.frozen? ⟨g, i, none⟩ = false := HR.out.frozen i
        have fz2 : wr.drew.frozen? ⟨g, K, none⟩ = false := HR.out.frozen K
        clear HS HR2
        generalize m.getD i 0 = x1 at *
        generalize m.getD K 0 = y1 at *
        go_upto_region 7 with fail
        go_region
        go_wp2_with fail
        exact ⟨⟨i + 1, _, by omega, by go_num, HP1, ⟨HS1.out.drew⟩, ⟨((HB.out.setCell (p := ⟨g, i, none⟩) HG.out _).setCell (p := ⟨g, K, none⟩) HG.out _).drew⟩⟩, by simp [intOf]; omega⟩
      · have hd2 : decide (i < ny) = false := by simp; omega
        have j1 : (i : Int) < n := by omega
        have j2 : (ny : Int) ≤ i := by omega
        clear hlt hlt2 h0
        go_wp2_with fail
        go_ret
        exact ⟨some ⟨g, 0, none⟩, cap, m, by rw [HN.out]; rfl, HP.out, HR.out.fls, HB.out⟩
    · have j1 : (n : Int) ≤ i := by omega
      clear hlt h0
      go_wp2_with fail
      go_ret
      exact ⟨some ⟨g, 0, none⟩, cap, m, by rw [HN.out]; rfl, HP.out, HR.out.fls, HB.out⟩

end Go.Proofs.Ytpegicgahbambaa

/- AccOrder's walk. -/
namespace Go.Proofs.Ytpegicgahbambaa
open Go.RowKit
set_option linter.unusedSimpArgs false
set_option linter.unusedVariables false

theorem F64_overA (z : Int) (up dn : Bool) (n : Nat) : F64 (overA z up dn n) := by
  unfold overA
  split
  · exact ⟨by decide⟩
  · split
    · exact ⟨by decide⟩
    · split
      · exact ⟨by decide⟩
      · unfold nearZ madeN
        have := Nat.min_le_right (rnd (z.natAbs / n) (-2148) (nz (z.natAbs % n))) 9218868437227405312
        split
        · exact ⟨by omega⟩
        · exact ⟨by omega⟩

set_option maxHeartbeats 800000 in
theorem ieeeSame_any (x : Nat) (hx : F64 x) (w : World) :
    Calls Try.prog 40 #[.float .f64 x, .float .f64 x] w fun e w' => e = .returned (.bool true) ∧ w = w' := by
  have hs : same x x = true := by unfold same; simp
  have HR := Hd.mk (rSame_any x x hx hx)
  rw [hs] at HR
  clear hs
  go_enter Try.func40, Try.ntmps40
  go_wp2_with fail
  refine (apiBits_any _ _).mono ?_; rintro en w' ⟨rfl, rfl⟩
  go_wp2_with fail
  refine (apiBits_any _ _).mono ?_; rintro en w' ⟨rfl, rfl⟩
  go_wp2_with fail
  refine (HR.out _).mono ?_; rintro en w' ⟨rfl, rfl⟩
  go_wp2_with fail
  go_ret
  exact ⟨rfl, rfl⟩

theorem asame_self (z : Int) (u d : Bool) : asame z u d z u d = true := by unfold asame; simp

set_option maxHeartbeats 3200000 in
set_option maxRecDepth 100000 in
theorem accOrder_any (a : Option Addr) (l : List Nat) (c : Nat) (a' : Option Addr) (by_ : List Int) (c' : Nat) (cut : Int) (w : World) (hl : Fls w a l) (hr : Room a l.length c) (hy : Ins w a' by_) (hr' : Room a' by_.length c') (hcut : (Lit.int .i64 cut).wf = true) :
    Calls Try.prog 9 #[.slice a l.length c, .slice a' by_.length c', .int .i64 cut] w fun e w' => e = .returned (.bool true) ∧ Below w.heap.size w w' := by
  have HL := Hd.mk hl
  have hlen := hl.len
  have HSh := Hd.mk fun h => shuffled_any a l c a' by_ c' w hl hy hr.nil h
  obtain ⟨n, hn⟩ : ∃ n, l.length = n := ⟨_, rfl⟩
  obtain ⟨ny, hny⟩ : ∃ n, by_.length = n := ⟨_, rfl⟩
  rw [hn] at hlen ⊢ HSh
  rw [hny] at HSh ⊢
  have HN := Hd.mk hn
  clear hl hr hr' hcut hy hn hny
  go_enter Try.func9, Try.ntmps9
  by_cases hc1 : 200 < n
  · have hd : decide ((n : Int) > 200) = true := by simp; omega
    go_wp2_with fail
    refine (awake3_any _).mono ?_; rintro e w3 ⟨rfl, hb⟩
    have B3 := Hd.mk hb
    clear hb
    go_wp2_with fail
    go_ret
    exact ⟨rfl, B3.out⟩
  have hd1 : decide ((n : Int) > 200) = false := by simp; omega
  have hn1 : n ≤ 200 := by omega
  have hn1' : (n : Int) ≤ 200 := by omega
  clear hc1
  go_wp2_with fail
  refine (HSh.out (by omega)).mono ?_; rintro e w1 ⟨a2, c2, m, rfl, hp, hm, hb⟩
  have HML := Hd.mk (hp.length_eq.trans HN.out)
  have HP := Hd.mk (zS_perm hp)
  have HM := Hd.mk hm
  have HL1 := Hd.mk (HL.out.belowK hb)
  have B0 := Hd.mk hb
  have HZ := Hd.mk (zS_accB HL.out (by rw [HN.out]; omega))
  rw [HN.out]
  clear hp hm hb HSh HL
  go_wp2_with fail
  refine (new_any _).mono ?_; rintro e w2 ⟨b1, rfl, hb1, hacc, hb⟩
  have A1 := Hd.mk hacc
  have B1 := Hd.mk hb
  have L1 := Hd.mk hb1
  clear hacc hb hb1
  go_wp2_with fail
  refine (new_any _).mono ?_; rintro e w3 ⟨b2, rfl, hb2, hacc, hb⟩
  have A1' := Hd.mk (A1.out.below hb)
  have A2 := Hd.mk hacc
  have B2 := Hd.mk (B1.out.trans (hb.mono B1.out.size))
  have L2 := Hd.mk (Nat.le_trans B1.out.size hb2)
  have L12 := Hd.mk (show b1 ≠ b2 from fun e => by have := A1.out.lt; omega)
  clear hacc hb hb2 A1 B1
  go_wp2_with fail
  refine (new_any _).mono ?_; rintro e w4 ⟨b3, rfl, hb3, hacc, hb⟩
  have A1 := Hd.mk (A1'.out.below hb)
  have A2' := Hd.mk (A2.out.below hb)
  have A3 := Hd.mk hacc
  have B3 := Hd.mk (B2.out.trans (hb.mono B2.out.size))
  have L3 := Hd.mk (Nat.le_trans B2.out.size hb3)
  have L13 := Hd.mk (show b1 ≠ b3 from fun e => by have := A1'.out.lt; omega)
  have L23 := Hd.mk (show b2 ≠ b3 from fun e => by have := A2.out.lt; omega)
  clear hacc hb hb3 A1' A2 B2
  go_wp2_with fail
  go_loopw [11] (fun iv wr => ∃ (k : Nat), k ≤ n ∧ iv = .int .i64 k ∧ Hd (AccIs wr b1 (zS (l.take k)) (uS (l.take k)) (dS (l.take k))) ∧ Hd (AccIs wr b2 0 false false) ∧ Hd (AccIs wr b3 0 false false) ∧ Hd (Below w1.heap.size w1 wr)) (fun iv _ => n - (intOf iv).toNat)
  case atStart => exact ⟨0, Nat.zero_le _, rfl, A1, A2', A3, B3⟩
  case round =>
    clear A1 A2' A3 B3
    obtain ⟨k, hk, rfl, HA1, HA2, HA3, HB⟩ := hrel
    by_cases hlt : k < n
    · obtain ⟨b, o, ha, hc⟩ := (HL1.out.belowK HB.out).at k (by rw [HN.out]; exact hlt)
      subst ha
      have hlt' : (k : Int) < n := by omega
      have HS := Hd.mk (zS_take l k (by rw [HN.out]; exact hlt))
      have HAd := Hd.mk (accAdd_any b1 _ _ _ (l.getD k 0) wr HA1.out (HL1.out.wf k))
      rw [← HS.out.1, ← HS.out.2.1, ← HS.out.2.2] at HAd
      have k0 : (0 : Int) ≤ k := by omega
      generalize l.getD k 0 = x at *
      clear hlt
      go_wp2_with fail
      refine (HAd.out).mono ?_; rintro e w5 ⟨rfl, hacc, ho⟩
      have HA1' := Hd.mk hacc
      have HA2' := Hd.mk (HA2.out.only ho (Ne.symm L12.out))
      have HA3' := Hd.mk (HA3.out.only ho (Ne.symm L13.out))
      have HB2 := Hd.mk (Only.below HB.out L1.out ho HB.out.size)
      clear hacc ho
      go_wp2_with fail
      exact ⟨⟨k + 1, by omega, by go_num, HA1', HA2', HA3', HB2⟩, by simp [intOf]; omega⟩
    · have hge : (n : Int) ≤ k := by omega
      have he : Hd (l.take k = l) := ⟨List.take_of_length_le (by rw [HN.out]; omega)⟩
      rw [he.out] at HA1
      have hd4 : decide (k < n) = false := by simp; omega
      clear hlt he
      go_wp2_with fail
      clear hge hk hd4
      go_loopw [12] (fun iv wr => ∃ (k : Nat) (z2 : Int) (u2 d2 : Bool) (z3 : Int) (u3 d3 : Bool), k ≤ n ∧ iv = .int .i64 k ∧ Hd (AccIs wr b1 (zS l) (uS l) (dS l)) ∧ Hd (AccIs wr b2 z2 u2 d2) ∧ Hd (AccIs wr b3 z3 u3 d3) ∧ Hd (z2 + z3 = zS (m.take k)) ∧ Hd ((u2 || u3) = uS (m.take k)) ∧ Hd ((d2 || d3) = dS (m.take k)) ∧ Hd (Below w1.heap.size w1 wr)) (fun iv _ => n - (intOf iv).toNat)
      case atStart => exact ⟨0, 0, false, false, 0, false, false, Nat.zero_le _, rfl, HA1, HA2, HA3, ⟨rfl⟩, ⟨rfl⟩, ⟨rfl⟩, HB⟩
      case round =>
        clear HA1 HA2 HA3 HB
        obtain ⟨k, z2, u2, d2, z3, u3, d3, hk, rfl, HA1, HA2, HA3, HQ1, HQ2, HQ3, HB⟩ := hrel
        have HQ : Hd (_ ∧ _ ∧ _) := ⟨HQ1.out, HQ2.out, HQ3.out⟩
        by_cases hlt : k < n
        · obtain ⟨b, o, ha, hc⟩ := (HM.out.belowK HB.out).at k (by rw [HML.out]; exact hlt)
          subst ha
          have hlt' : (k : Int) < n := by omega
          have HS := Hd.mk (zS_take m k (by rw [HML.out]; exact hlt))
          have HX := Hd.mk (HM.out.wf k)
          have k0 : (0 : Int) ≤ k := by omega
          have k2 : (k : Int) ≤ 200 := by omega
          generalize m.getD k 0 = x at *
          obtain ⟨V, hV⟩ : ∃ V, IntKind.i64.wrap ((k : Int) * 7 + cut) = V := ⟨_, rfl⟩
          clear hlt HQ1 HQ2 HQ3
          cases hB : (V.tmod 3 == 0)
          · have hB3 : ¬ V.tmod 3 = 0 := by simpa using hB
            have HAd := Hd.mk (accAdd_any b2 _ _ _ x wr HA2.out HX.out)
            go_wp2_with fail
            refine (HAd.out).mono ?_; rintro e w5 ⟨rfl, hacc, ho⟩
            have HA := Hd.mk hacc
            have H1' := Hd.mk (HA1.out.only ho L12.out)
            have H3' := Hd.mk (HA3.out.only ho (Ne.symm L23.out))
            have HB2 := Hd.mk (Only.below HB.out L2.out ho HB.out.size)
            clear hacc ho hB hB3
            go_wp2_with fail
            exact ⟨⟨k + 1, _, _, _, z3, u3, d3, by omega, by go_num, H1', HA, H3', ⟨by rw [HS.out.1, ← HQ.out.1]; omega⟩, ⟨by rw [HS.out.2.1, ← HQ.out.2.1]; cases u2 <;> cases u3 <;> simp⟩, ⟨by rw [HS.out.2.2, ← HQ.out.2.2]; cases d2 <;> cases d3 <;> simp⟩, HB2⟩, by simp [intOf]; omega⟩
          · have hB3 : V.tmod 3 = 0 := by simpa using hB
            have HAd := Hd.mk (accAdd_any b3 _ _ _ x wr HA3.out HX.out)
            go_wp2_with fail
            refine (HAd.out).mono ?_; rintro e w5 ⟨rfl, hacc, ho⟩
            have HA := Hd.mk hacc
            have H1' := Hd.mk (HA1.out.only ho L13.out)
            have H2' := Hd.mk (HA2.out.only ho L23.out)
            have HB2 := Hd.mk (Only.below HB.out L3.out ho HB.out.size)
            clear hacc ho hB hB3
            go_wp2_with fail
            exact ⟨⟨k + 1, z2, u2, d2, _, _, _, by omega, by go_num, H1', H2', HA, ⟨by rw [HS.out.1, ← HQ.out.1]; omega⟩, ⟨by rw [HS.out.2.1, ← HQ.out.2.1, Bool.or_assoc]⟩, ⟨by rw [HS.out.2.2, ← HQ.out.2.2, Bool.or_assoc]⟩, HB2⟩, by simp [intOf]; omega⟩
        · have hge : (n : Int) ≤ k := by omega
          have he : Hd (m.take k = m) := ⟨List.take_of_length_le (by rw [HML.out]; omega)⟩
          rw [he.out, HP.out.1] at HQ1
          rw [he.out, HP.out.2.1] at HQ2
          rw [he.out, HP.out.2.2] at HQ3
          clear hlt he
          have HSm := Hd.mk fun w' h => sum_any a2 m c2 w' h (zS_accB HM.out (by rw [HML.out]; omega))
          rw [HP.out.1, HP.out.2.1, HP.out.2.2, HML.out] at HSm
          have HSl := Hd.mk fun w' h => sum_any a l c w' h HZ.out
          rw [HN.out] at HSl
          have hs := asame_self (zS l) (uS l) (dS l)
          have hF := Hd.mk (F64_overA (zS l) (uS l) (dS l) 1)
          have HV := Hd.mk fun w' h => value_any b1 (zS l) (uS l) (dS l) w' h HZ.out
          go_wp2_with fail
          refine (merge_any b2 z2 u2 d2 b3 z3 u3 d3 _ HA2.out HA3.out).mono ?_; rintro e w5 ⟨rfl, hacc, ho⟩
          rw [HQ1.out, HQ2.out, HQ3.out] at hacc
          have C2 := Hd.mk hacc
          have C1 := Hd.mk (HA1.out.only ho L12.out)
          have BB := Hd.mk (Only.below HB.out L2.out ho HB.out.size)
          clear hacc ho HQ1 HQ2 HQ3 HA1 HA2 HA3 HB
          go_wp2_with fail
          refine (same_any b1 _ _ _ b2 _ _ _ _ C1.out C2.out HZ.out HZ.out).mono ?_; rintro e w' ⟨rfl, m1, rfl⟩
          rw [hs]
          go_wp2_with fail
          refine (same_any b2 _ _ _ b1 _ _ _ _ (C2.out.drewN _) (C1.out.drewN _) HZ.out HZ.out).mono ?_; rintro e w' ⟨rfl, m2, rfl⟩
          rw [hs]
          have BC := Hd.mk (below_drewN (below_drewN BB.out m1) m2)
          have D1 := Hd.mk ((C1.out.drewN m1).drewN m2)
          clear C1 C2 BB
          generalize (w5.drewN m1).drewN m2 = w6 at *
          go_wp2_with fail
          refine (HSl.out _ (HL1.out.belowK BC.out)).mono ?_; rintro e w7 ⟨rfl, hb⟩
          have D2 := Hd.mk (D1.out.below hb)
          have BD := Hd.mk (BC.out.trans (hb.mono BC.out.size))
          clear hb D1 BC
          go_wp2_with fail
          refine (HSm.out _ (HM.out.belowK BD.out)).mono ?_; rintro e w8 ⟨rfl, hb⟩
          have D3 := Hd.mk (D2.out.below hb)
          have BE := Hd.mk (BD.out.trans (hb.mono BD.out.size))
          clear hb D2 BD
          go_wp2_with fail
          refine (ieeeSame_any _ hF.out _).mono ?_; rintro e w' ⟨rfl, rfl⟩
          go_wp2_with fail
          refine (HV.out _ D3.out).mono ?_; rintro e w9 ⟨rfl, hb⟩
          have BF := Hd.mk (BE.out.trans (hb.mono BE.out.size))
          clear hb D3 BE
          go_wp2_with fail
          refine (HSm.out _ (HM.out.belowK BF.out)).mono ?_; rintro e w10 ⟨rfl, hb⟩
          have BG := Hd.mk (BF.out.trans (hb.mono BF.out.size))
          clear hb BF
          go_wp2_with fail
          refine (ieeeSame_any _ hF.out _).mono ?_; rintro e w' ⟨rfl, rfl⟩
          go_wp2_with fail
          refine (awake3_any _).mono ?_; rintro e w11 ⟨rfl, hb⟩
          have BH := Hd.mk (B0.out.trans ((BG.out.trans (hb.mono BG.out.size)).mono B0.out.size))
          clear hb BG
          go_wp2_with fail
          go_ret
          exact ⟨rfl, BH.out⟩

end Go.Proofs.Ytpegicgahbambaa

/- The reference's Add, for every state; its Value. -/
namespace Go.Proofs.Ytpegicgahbambaa
open Go.RowKit
set_option linter.unusedSimpArgs false
set_option linter.unusedVariables false

theorem r3add_any (up dn : Bool) (s : Bool) (a : Option Addr) (d c : Nat) (e : Int) (z : Int) (u : Nat) (hu : F64 u) (w : World) (h : R3 w s a d e z up dn) (hz : AccB (z + aZ u)) :
    Calls Try.prog 48 #[.agg #[.int .i64 (stOf up dn), .bool s, .slice a (nd d) c, .int .i64 e], .int .u64 u] w (R3Ret (z + aZ u) (up || upB u) (dn || dnB u) w) := by
  cases hn : nn u
  · cases hf : fin u
    · have h1 : upB u = !ng u := by unfold upB; rw [hf, hn]; simp
      have h2 : dnB u = ng u := by unfold dnB; rw [hf, hn]; simp
      rw [h1, h2]
      refine (r3add_inf up dn s a (nd d) c e u hu hn hf w).mono ?_
      rintro en w' ⟨rfl, hb⟩
      exact ⟨false, none, 0, 0, 0, rfl, R3.zero _ _ _ _ (fun e1 e2 => by cases hg : ng u <;> rw [hg] at e1 e2 <;> simp at e1 e2), hb⟩
    · have h1 := flagB_fin u hf
      rw [h1.1, h1.2, Bool.or_false, Bool.or_false]
      by_cases h0 : up = false ∧ dn = false
      · obtain ⟨rfl, rfl⟩ := h0
        exact r3add_num s a d c e u hu hf w h.dg h.sm h.lo h.hi z (h.val rfl rfl) hz
      · have hst : stOf up dn ≠ 0 := by cases up <;> cases dn <;> simp [stOf] at h0 ⊢
        refine (r3add_stays (stOf up dn) hst s a d c e u hu hn (by unfold fin INF at hf; unfold inf; simp at hf ⊢; omega) w h.dg).mono ?_
        rintro en w' ⟨rfl, hd, hb⟩
        exact ⟨s, a, d, c, e, rfl, ⟨hd, h.sm, h.lo, h.hi, fun e1 e2 => absurd ⟨e1, e2⟩ h0⟩, hb⟩
  · have hf : fin u = false := by cases h : fin u; rfl; rw [nn_fin u h] at hn; cases hn
    have h1 : upB u = true := by unfold upB; rw [hf, hn]; simp
    have h2 : dnB u = true := by unfold dnB; rw [hf, hn]; simp
    rw [h1, h2, Bool.or_true, Bool.or_true]
    refine (r3add_nan up dn s a (nd d) c e u hu hn w).mono ?_
    rintro en w' ⟨rfl, hb⟩
    exact ⟨false, none, 0, 0, 0, rfl, R3.zero _ _ _ _ (fun e1 _ => by cases e1), hb⟩

/-- The nearest word of a sum. -/
theorem near_val (s : Bool) (d : Nat) (e : Int) (z : Int) (l : -2148 ≤ e) (h : sg s (d * 2 ^ (e + 2148).toNat) = z) : nearM s d e false = overA z false false 1 := by
  unfold nearM overA nearZ
  simp only [Bool.false_and, Bool.false_eq_true, if_false, Nat.div_one, Nat.mod_one]
  rw [show nz 0 = false from rfl]
  have h1 : z.natAbs = d * 2 ^ (e + 2148).toNat := by rw [← h, sg_natAbs]
  by_cases h0 : d = 0
  · rw [if_pos h0]
    rw [h0, Nat.zero_mul] at h1
    have : z = 0 := by omega
    subst this
    rw [show (0 : Int).natAbs = 0 from rfl, rnd_zero _ (by decide)]
    rfl
  · rw [if_neg h0, h1]
    have h2 := rnd_scale d (e + 2148).toNat e h0
    rw [show e - ((e + 2148).toNat : Int) = -2148 by omega] at h2
    rw [h2]
    congr 1
    have hp := Nat.pow_pos (n := (e + 2148).toNat) (show 0 < 2 by decide)
    have : 0 < d * 2 ^ (e + 2148).toNat := Nat.mul_pos (by omega) hp
    rw [← h]
    generalize d * 2 ^ (e + 2148).toNat = p at *
    unfold sg
    cases s
    · simp
    · simp; omega

set_option maxHeartbeats 1600000 in
theorem r3over1_any (up dn : Bool) (s : Bool) (a : Option Addr) (d c : Nat) (e : Int) (z : Int) (w : World) (h : R3 w s a d e z up dn) :
    Calls Try.prog 55 #[.agg #[.int .i64 (stOf up dn), .bool s, .slice a (nd d) c, .int .i64 e], .int .i64 1] w (URet (overA z up dn 1) w) := by
  have HB : Hd (∀ (o : Obj), Below w.heap.size w (w.alloc o)) := ⟨fun o => ((Below.refl _ _).alloc (Nat.le_refl _) o)⟩
  by_cases h0 : up = false ∧ dn = false
  · obtain ⟨rfl, rfl⟩ := h0
    rw [← near_val s d e z h.lo (h.val rfl rfl)]
    have HN : Hd (∀ o, Calls Try.prog 103 #[.agg #[.bool s, .slice a (nd d) c, .int .i64 e]] (w.alloc o) (URet (nearM s d e false) (w.alloc o))) := ⟨fun o => near_any s a d c e (w.alloc o) (h.dg.below ((Below.refl _ _).alloc (Nat.le_refl _) o)) (by have := h.sm; omega) (by have := h.lo; have := h.hi; omega)⟩
    rw [show stOf false false = 0 from rfl]
    clear h
    generalize nearM s d e false = v at *
    generalize nd d = n at *
    go_enter Try.func55, Try.ntmps55
    go_wp2_with fail
    refine (HN.out _).mono ?_; rintro en w2 ⟨rfl, hb⟩
    have B := Hd.mk ((HB.out _).trans (hb.mono (World.alloc_size_le _ _)))
    clear hb
    go_wp2_with fail
    go_ret
    exact ⟨rfl, B.out⟩
  · clear h
    generalize nd d = n at *
    cases up <;> cases dn
    · exact absurd ⟨rfl, rfl⟩ h0
    · rw [show stOf false true = 2 from rfl, show overA z false true 1 = 18442240474082181120 from rfl]
      clear h0
      go_enter Try.func55, Try.ntmps55
      go_wp2_with fail
      refine (rFlip_any _ ⟨by decide⟩ _).mono ?_; rintro en w' ⟨rfl, rfl⟩
      rw [show flip64 9218868437227405312 = 18442240474082181120 by decide +kernel]
      go_wp2_with fail
      go_ret
      exact ⟨rfl, HB.out _⟩
    · rw [show stOf true false = 1 from rfl, show overA z true false 1 = 9218868437227405312 from rfl]
      clear h0
      go_enter Try.func55, Try.ntmps55
      go_wp2_with fail
      go_ret
      exact ⟨rfl, HB.out _⟩
    · rw [show stOf true true = 3 from rfl, show overA z true true 1 = 9221120237041090561 from rfl]
      clear h0
      go_enter Try.func55, Try.ntmps55
      go_wp2_with fail
      go_ret
      exact ⟨rfl, HB.out _⟩

set_option maxHeartbeats 1600000 in
theorem r3value_any (up dn : Bool) (s : Bool) (a : Option Addr) (d c : Nat) (e : Int) (z : Int) (w : World) (h : R3 w s a d e z up dn) :
    Calls Try.prog 59 #[.agg #[.int .i64 (stOf up dn), .bool s, .slice a (nd d) c, .int .i64 e]] w (URet (overA z up dn 1) w) := by
  have HN : Hd (∀ o, Calls Try.prog 55 #[.agg #[.int .i64 (stOf up dn), .bool s, .slice a (nd d) c, .int .i64 e], .int .i64 1] (w.alloc o) (URet (overA z up dn 1) (w.alloc o))) := ⟨fun o => r3over1_any up dn s a d c e z _ (h.below ((Below.refl _ _).alloc (Nat.le_refl _) o))⟩
  have HB : Hd (∀ (o : Obj), Below w.heap.size w (w.alloc o)) := ⟨fun o => ((Below.refl _ _).alloc (Nat.le_refl _) o)⟩
  clear h
  generalize overA z up dn 1 = v at *
  generalize nd d = n at *
  generalize stOf up dn = st at *
  go_enter Try.func59, Try.ntmps59
  go_wp2_with fail
  refine (HN.out _).mono ?_; rintro en w2 ⟨rfl, hb⟩
  have B := Hd.mk ((HB.out _).trans (hb.mono (World.alloc_size_le _ _)))
  clear hb
  go_wp2_with fail
  go_ret
  exact ⟨rfl, B.out⟩

end Go.Proofs.Ytpegicgahbambaa

/- The reference's Sum. -/
namespace Go.Proofs.Ytpegicgahbambaa
open Go.RowKit
set_option linter.unusedSimpArgs false
set_option linter.unusedVariables false

theorem set_row {w : World} {b : Nat} {cs : Array Value} {t : TypeId} {r : Nat × Nat} (h : w.heap[b]? = some (.cells cs t r)) (i : Nat) (v : Value) : (w.setCell ⟨b, i, none⟩ v).heap[b]? = some (.cells (cs.setIfInBounds i v) t r) := by
  unfold World.setCell
  simp only [Array.getElem?_modify, h]
  simp
theorem Box3.stored {w : World} {b : Nat} {st : Int} {s : Bool} {a : Option Addr} {n c : Nat} {e : Int} (h : Box3 w b st s a n c e) (st' : Int) (s' : Bool) (a' : Option Addr) (n' c' : Nat) (e' : Int) :
    Box3 ((((w.setCell ⟨b, 0, none⟩ (.int .i64 st')).setCell ⟨b, 1, none⟩ (.bool s')).setCell ⟨b, 2, none⟩ (.slice a' n' c')).setCell ⟨b, 3, none⟩ (.int .i64 e')) b st' s' a' n' c' e' := by
  unfold Box3 at *
  have := set_row (set_row (set_row (set_row h 0 (.int .i64 st')) 1 (.bool s')) 2 (.slice a' n' c')) 3 (.int .i64 e')
  rw [this]
  rfl
theorem zero_box (w : World) : ∃ W, (w.alloc (.cells #[.int .i64 0, .bool false, .slice none 0 0, .int .i64 0] 74)) = W ∧ Box3 W w.heap.size 0 false none 0 0 0 ∧ Below w.heap.size w W := by
  refine ⟨_, rfl, ?_, ((Below.refl _ _).alloc (Nat.le_refl _) _)⟩
  unfold Box3 World.alloc; simp [Array.getElem?_push]

/-- The box holds the accumulator of a sum. -/
structure In3 (w : World) (b : Nat) (z : Int) (up dn : Bool) (st : Int) (s : Bool) (a : Option Addr) (d c : Nat) (e : Int) : Prop where
  box : Box3 w b st s a (nd d) c e
  st : st = stOf up dn
  r3 : R3 w s a d e z up dn
theorem In3.below {w w' : World} {b : Nat} {z : Int} {up dn : Bool} {st : Int} {s : Bool} {a : Option Addr} {d c : Nat} {e : Int} (h : In3 w b z up dn st s a d c e) (hb : Below w.heap.size w w') : In3 w' b z up dn st s a d c e := ⟨h.box.below hb, h.st, h.r3.below hb⟩
theorem In3.store {w : World} {b : Nat} {st : Int} {s : Bool} {a : Option Addr} {n c : Nat} {e : Int} (h : Box3 w b st s a n c e) {z : Int} {up dn : Bool} {s' : Bool} {a' : Option Addr} {d' : Nat} {e' : Int} (h' : R3 w s' a' d' e' z up dn) (c' : Nat) :
    In3 ((((w.setCell ⟨b, 0, none⟩ (.int .i64 (stOf up dn))).setCell ⟨b, 1, none⟩ (.bool s')).setCell ⟨b, 2, none⟩ (.slice a' (nd d') c')).setCell ⟨b, 3, none⟩ (.int .i64 e')) b z up dn (stOf up dn) s' a' d' c' e' :=
  ⟨h.stored _ _ _ _ _ _, rfl, ⟨h'.dg.stored4 h _ _ _ _, h'.sm, h'.lo, h'.hi, h'.val⟩⟩

set_option maxHeartbeats 1600000 in
set_option maxRecDepth 100000 in
theorem r3sum_any (a : Option Addr) (l : List Nat) (c : Nat) (w : World) (hl : Us w a l) (hz : ∀ k, AccB (zS (l.take k))) :
    Calls Try.prog 27 #[.slice a l.length c] w (URet (overA (zS l) (uS l) (dS l) 1) w) := by
  have HL := Hd.mk hl
  have HZ := Hd.mk hz
  have hlen := hl.len
  obtain ⟨n, hn⟩ : ∃ n, l.length = n := ⟨_, rfl⟩
  rw [hn] at hlen ⊢
  have HN := Hd.mk hn
  obtain ⟨W, hW, b1, b2⟩ := zero_box w
  have I0 : In3 W w.heap.size (zS (l.take 0)) (uS (l.take 0)) (dS (l.take 0)) 0 false none 0 0 0 := ⟨by rw [show nd 0 = 0 from rfl]; exact b1, rfl, R3.zero _ _ _ _ (fun _ _ => rfl)⟩
  have HI := Hd.mk I0
  have HB0 := Hd.mk b2
  clear hl hn hz I0 b1 b2
  go_enter Try.func27, Try.ntmps27
  go_upto_region 2 with fail
  clear hW
  go_wp2_with fail
  go_loopw [4] (fun iv wr => ∃ (k : Nat) (st : Int) (s : Bool) (a' : Option Addr) (d c' : Nat) (e : Int), k ≤ n ∧ iv = .int .i64 k ∧ Hd (In3 wr w.heap.size (zS (l.take k)) (uS (l.take k)) (dS (l.take k)) st s a' d c' e) ∧ Hd (Below w.heap.size w wr)) (fun iv _ => n - (intOf iv).toNat)
  case atStart => exact ⟨0, 0, false, none, 0, 0, 0, Nat.zero_le _, rfl, HI, HB0⟩
  case round =>
    clear HI HB0
    obtain ⟨k, st, s, a', d, c', e, hk, rfl, HI, HB⟩ := hrel
    obtain ⟨x0, x1, x2, x3⟩ := HI.out.box.cell
    by_cases hlt : k < n
    · obtain ⟨b, o, ha, hc⟩ := (HL.out.below HB.out).at k (by rw [HN.out]; exact hlt)
      subst ha
      have hlt' : (k : Int) < n := by omega
      have HS := Hd.mk (zS_take l k (by rw [HN.out]; exact hlt))
      have HA : Hd (∀ w', R3 w' s a' d e (zS (l.take k)) (uS (l.take k)) (dS (l.take k)) → Calls Try.prog 48 #[.agg #[.int .i64 st, .bool s, .slice a' (nd d) c', .int .i64 e], .int .u64 (l.getD k 0)] w' (R3Ret (zS (l.take (k + 1))) (uS (l.take (k + 1))) (dS (l.take (k + 1))) w')) := ⟨fun w' h => by
        have hz := HZ.out (k + 1)
        rw [HS.out.1] at hz
        rw [HS.out.1, HS.out.2.1, HS.out.2.2, HI.out.st]
        exact r3add_any _ _ s a' d c' e _ _ (HL.out.wf k) w' h hz⟩
      have k0 : (0 : Int) ≤ k := by omega
      have BX := Hd.mk HI.out.box
      generalize l.getD k 0 = x at *
      obtain ⟨N, hN⟩ : ∃ N, nd d = N := ⟨_, rfl⟩
      rw [hN] at HA x2 BX
      clear hlt hN HS
      go_wp2_with fail
      have y0 : wr.drew.cell? ⟨w.heap.size, 0, none⟩ = _ := x0
      have y1 : wr.drew.cell? ⟨w.heap.size, 1, none⟩ = _ := x1
      have y2 : wr.drew.cell? ⟨w.heap.size, 2, none⟩ = _ := x2
      have y3 : wr.drew.cell? ⟨w.heap.size, 3, none⟩ = _ := x3
      have hc' : wr.drew.cell? ⟨b, o + k, none⟩ = some (.int .u64 x) := hc
      refine wp_region_still_tail 5 (by kernel_rfl) (by kernel_rfl) ?_
      simp only [List.take_succ_cons, List.take_zero, List.drop_succ_cons, List.drop_zero]
      change wpStill _ _ wr.drew _ _ _
      iterate 5 still_step
      refine wpStill_nil ?_
      change wpList _ _ _ _ _ wr.drew
      go_wp2_with fail
      refine (HA.out _ (HI.out.r3.below (Below.refl _ _).drew)).mono ?_; rintro en w5 ⟨s5, a5, d5, c5, e5, rfl, hr, hb⟩
      have BX5 := Hd.mk ((show Box3 wr.drew _ _ _ _ _ _ _ from BX.out).below hb)
      have HB5 := Hd.mk (HB.out.drew.trans (hb.mono HB.out.size))
      have IN := Hd.mk (In3.store BX5.out hr c5)
      have fz := BX5.out.frozen
      obtain ⟨z0, z1, z2, z3⟩ := BX5.out.cell
      clear hb hr x0 x1 x2 x3 y0 y1 y2 y3
      go_wp2_with fail
      refine ⟨⟨k + 1, _, s5, a5, d5, c5, e5, by omega, by go_num, IN, ⟨?_⟩⟩, by simp [intOf]; omega⟩
      repeat (refine Below.setCell ?_ (by simp) _)
      exact HB5.out
    · have hge : (n : Int) ≤ k := by omega
      have he : Hd (l.take k = l) := ⟨List.take_of_length_le (by rw [HN.out]; omega)⟩
      have HV : Hd (Calls Try.prog 59 #[.agg #[.int .i64 st, .bool s, .slice a' (nd d) c', .int .i64 e]] wr (URet (overA (zS l) (uS l) (dS l) 1) wr)) := ⟨by
        have h1 := HI.out.r3
        have h2 := HI.out.st
        rw [he.out] at h1 h2
        rw [h2]
        exact r3value_any _ _ s a' d c' e _ wr h1⟩
      generalize overA (zS l) (uS l) (dS l) 1 = v at *
      obtain ⟨N, hN⟩ : ∃ N, nd d = N := ⟨_, rfl⟩
      rw [hN] at HV x2
      clear hlt hN
      go_wp2_with fail
      refine (HV.out).mono ?_; rintro en w2 ⟨rfl, hb⟩
      have HB2 := Hd.mk (HB.out.trans (hb.mono HB.out.size))
      clear hb
      go_wp2_with fail
      go_ret
      exact ⟨rfl, HB2.out⟩

end Go.Proofs.Ytpegicgahbambaa

/- The reference's Prod (tenorref3). -/
namespace Go.Proofs.Ytpegicgahbambaa
open Go.RowKit
set_option linter.unusedSimpArgs false
set_option linter.unusedVariables false

theorem set4_other (w : World) (v0 v1 v2 v3 : Value) {b r : Nat} (hne : b ≠ r) (o : Nat) :
    ((((w.setCell ⟨r, 0, none⟩ v0).setCell ⟨r, 1, none⟩ v1).setCell ⟨r, 2, none⟩ v2).setCell ⟨r, 3, none⟩ v3).cell? ⟨b, o, none⟩ = w.cell? ⟨b, o, none⟩ := by
  refine World.cell?_of_block (w := w) (a := ⟨b, o, none⟩) ?_
  rw [Below.heap_setCell _ _ _ _ hne, Below.heap_setCell _ _ _ _ hne, Below.heap_setCell _ _ _ _ hne, Below.heap_setCell _ _ _ _ hne]

set_option maxHeartbeats 1600000 in
set_option maxRecDepth 100000 in
theorem r3prod_far (up dn : Bool) (s : Bool) (a : Option Addr) (d c : Nat) (e : Int) (z : Int) (u v : Nat) (hu : F64 u) (hv : F64 v) (hf : (fin u && fin v) = false) (w : World) (h : R3 w s a d e z up dn) (hz : AccB (z + aZ (fmul u v))) :
    Calls Try.prog 50 #[.agg #[.int .i64 (stOf up dn), .bool s, .slice a (nd d) c, .int .i64 e], .int .u64 u, .int .u64 v] w (R3Ret (z + aZ (fmul u v)) (up || upB (fmul u v)) (dn || dnB (fmul u v)) w) := by
  have HU := Hd.mk (rNumber_any u hu)
  have HV := Hd.mk (rNumber_any v hv)
  have HM := Hd.mk (rMul_any u v hu hv)
  have HA : Hd (∀ w', Below w.heap.size w w' → Calls Try.prog 48 #[.agg #[.int .i64 (stOf up dn), .bool s, .slice a (nd d) c, .int .i64 e], .int .u64 (fmul u v)] w' (R3Ret (z + aZ (fmul u v)) (up || upB (fmul u v)) (dn || dnB (fmul u v)) w')) := ⟨fun w' hb => r3add_any up dn s a d c e z _ (F64_fmul _ _) w' (h.below hb) hz⟩
  obtain ⟨st, hst⟩ : ∃ st, stOf up dn = st := ⟨_, rfl⟩
  obtain ⟨n, hn⟩ : ∃ n, nd d = n := ⟨_, rfl⟩
  rw [hst, hn] at HA ⊢
  clear h hz hu hv hst hn
  generalize z + aZ (fmul u v) = Z at *
  generalize (up || upB (fmul u v)) = U at *
  generalize (dn || dnB (fmul u v)) = D at *
  generalize fmul u v = m at *
  obtain ⟨W, hW, b1, b2, b3, b4⟩ := two_boxes w st s a n c e
  have c1 := b1.cell
  have c2 := b2.cell
  have B1 := Hd.mk b1
  have B2 := Hd.mk b2
  have B3 := Hd.mk b3
  obtain ⟨x0, x1, x2, x3⟩ := c1
  obtain ⟨y0, y1, y2, y3⟩ := c2
  have HS := Hd.mk b4
  clear b1 b2 b3 b4
  have HW := Hd.mk hW
  go_enter Try.func50, Try.ntmps50
  go_upto_region 1 with fail
  clear hW HW
  have fz := B2.out.frozen
  cases fu : fin u <;> cases fv : fin v <;> rw [fu, fv] at hf <;> rw [fu] at HU <;> rw [fv] at HV
  all_goals (first | (exact absurd hf (by decide)) | skip)
  all_goals
    clear hf fu fv
    first
    | (go_wp2_with fail
       refine (HU.out _).mono ?_; rintro en w' ⟨rfl, rfl⟩
       go_wp2_with fail
       refine (HV.out _).mono ?_; rintro en w' ⟨rfl, rfl⟩
       go_upto_region 2 with fail)
    | (go_wp2_with fail
       refine (HU.out _).mono ?_; rintro en w' ⟨rfl, rfl⟩
       go_upto_region 2 with fail)
    have v0 : W.drew.cell? ⟨w.heap.size, 0, none⟩ = some (.int .i64 st) := x0
    have v1 : W.drew.cell? ⟨w.heap.size, 1, none⟩ = some (.bool s) := x1
    have v2 : W.drew.cell? ⟨w.heap.size, 2, none⟩ = some (.slice a n c) := x2
    have v3 : W.drew.cell? ⟨w.heap.size, 3, none⟩ = some (.int .i64 e) := x3
    go_region_held3 (fun w' => w'.cell? ⟨w.heap.size, 0, none⟩ = some (.int .i64 st) ∧ w'.cell? ⟨w.heap.size, 1, none⟩ = some (.bool s) ∧ w'.cell? ⟨w.heap.size, 2, none⟩ = some (.slice a n c) ∧ w'.cell? ⟨w.heap.size, 3, none⟩ = some (.int .i64 e)) (first | with_reducible exact ⟨v0, v1, v2, v3⟩ | with_reducible exact ⟨d0, d1, d2, d3⟩ | with_reducible exact ⟨g0, g1, g2, g3⟩ | with_reducible exact ⟨q0, q1, q2, q3⟩ | (refine ⟨?_, ?_, ?_, ?_⟩ <;> go_simp)) (
      first
      | (
      go_at_call 69
      refine (HM.out _).mono ?_
      rintro en w3 ⟨rfl, hb2⟩
      have C1 := Hd.mk ((show Box3 W.drew _ _ _ _ _ _ _ from B1.out).below hb2)
      have C2 := Hd.mk ((show Box3 W.drew _ _ _ _ _ _ _ from B2.out).below hb2)
      have D3 := Hd.mk (B3.out.drew.trans (hb2.mono B3.out.size))
      have d0 := C1.out.cell.1
      have d1 := C1.out.cell.2.1
      have d2 := C1.out.cell.2.2.1
      have d3 := C1.out.cell.2.2.2
      clear hb2)
      | (
      go_at_call 48
      refine (HA.out _ D3.out).mono ?_
      rintro en w4 ⟨s4, a4, K, k4, e4, rfl, hr4, hb4⟩
      have F1 := Hd.mk (C1.out.below hb4)
      have F2 := Hd.mk (C2.out.below hb4)
      have F3 := Hd.mk hr4
      have F4 := Hd.mk (D3.out.trans (hb4.mono D3.out.size))
      have g0 := F1.out.cell.1
      have g1 := F1.out.cell.2.1
      have g2 := F1.out.cell.2.2.1
      have g3 := F1.out.cell.2.2.2
      have r0 := F2.out.cell.1
      have r1 := F2.out.cell.2.1
      have r2 := F2.out.cell.2.2.1
      have r3 := F2.out.cell.2.2.2
      have fz4 := F2.out.frozen
      have q0 := (set4_other w4 (.int .i64 (stOf U D)) (.bool s4) (.slice a4 (nd K) k4) (.int .i64 e4) (Nat.ne_of_lt (Nat.lt_succ_self w.heap.size)) 0).trans g0
      have q1 := (set4_other w4 (.int .i64 (stOf U D)) (.bool s4) (.slice a4 (nd K) k4) (.int .i64 e4) (Nat.ne_of_lt (Nat.lt_succ_self w.heap.size)) 1).trans g1
      have q2 := (set4_other w4 (.int .i64 (stOf U D)) (.bool s4) (.slice a4 (nd K) k4) (.int .i64 e4) (Nat.ne_of_lt (Nat.lt_succ_self w.heap.size)) 2).trans g2
      have q3 := (set4_other w4 (.int .i64 (stOf U D)) (.bool s4) (.slice a4 (nd K) k4) (.int .i64 e4) (Nat.ne_of_lt (Nat.lt_succ_self w.heap.size)) 3).trans g3
      clear hr4 hb4))
    go_wp2_with fail
    refine bodyPost_ret (v := .agg #[.int .i64 (stOf U D), .bool s4, .slice a4 (nd K) k4, .int .i64 e4]) (by simp [results, Try.results50, go_sem, r0, r1, r2, r3]) rfl ⟨s4, a4, K, k4, e4, rfl, (In3.store F2.out F3.out k4).r3, ?_⟩
    repeat (refine Below.setCell ?_ (by simp) _)
    exact F4.out

end Go.Proofs.Ytpegicgahbambaa

/- The reference's Prod of numbers (tenorref3). -/
namespace Go.Proofs.Ytpegicgahbambaa
open Go.RowKit
set_option linter.unusedSimpArgs false
set_option linter.unusedVariables false

set_option maxHeartbeats 1600000 in
set_option maxRecDepth 100000 in
theorem r3prod_stays (st : Int) (hst : st ≠ 0) (s : Bool) (a : Option Addr) (d c : Nat) (e : Int) (u v : Nat) (hu : F64 u) (hv : F64 v) (fu : fin u = true) (fv : fin v = true) (w : World) (hd : Dgs w a d) :
    Calls Try.prog 50 #[.agg #[.int .i64 st, .bool s, .slice a (nd d) c, .int .i64 e], .int .u64 u, .int .u64 v] w fun en w' =>
      en = .returned (.agg #[.int .i64 st, .bool s, .slice a (nd d) c, .int .i64 e]) ∧ Dgs w' a d ∧ Below w.heap.size w w' := by
  have HU := Hd.mk (rNumber_any u hu)
  rw [fu] at HU
  have HV := Hd.mk (rNumber_any v hv)
  rw [fv] at HV
  have hs0 : (st != 0) = true := by rw [bne_iff_ne]; exact hst
  have HD := Hd.mk hd
  obtain ⟨n, hnd⟩ : ∃ n, nd d = n := ⟨_, rfl⟩
  rw [hnd]
  clear hu hv fu fv hst hd hnd
  obtain ⟨W, hW, b1, b2, b3, b4⟩ := two_boxes w st s a n c e
  have c1 := b1.cell
  have c2 := b2.cell
  have B1 := Hd.mk b1
  have B2 := Hd.mk b2
  have B3 := Hd.mk b3
  obtain ⟨x0, x1, x2, x3⟩ := c1
  obtain ⟨y0, y1, y2, y3⟩ := c2
  have HS := Hd.mk b4
  clear b1 b2 b3 b4
  have HW := Hd.mk hW
  go_enter Try.func50, Try.ntmps50
  go_upto_region 1 with fail
  clear hW HW
  go_wp2_with fail
  refine (HU.out _).mono ?_; rintro en w' ⟨rfl, rfl⟩
  go_wp2_with fail
  refine (HV.out _).mono ?_; rintro en w' ⟨rfl, rfl⟩
  have fz := B2.out.frozen
  go_wp2_with fail
  have HG : Hd (Dgs W a d) := ⟨HD.out.below B3.out⟩
  refine bodyPost_ret (v := .agg #[.int .i64 st, .bool s, .slice a n c, .int .i64 e]) (by simp [results, Try.results50, go_sem, y0, y1, y2, y3]) rfl ⟨rfl, HG.out.stored4 B2.out _ _ _ _, ?_⟩
  repeat (refine Below.setCell ?_ (by simp) _)
  exact B3.out

theorem nd_mnt3 (u : Nat) : nd (mnt u) ≤ 2 := nd_le (n := 2) (by have := mnt_lt u; rw [BB_pow]; exact Nat.lt_trans this (by decide))
theorem nd_prod (u v : Nat) : nd (mnt u * mnt v) ≤ 4 := by
  refine nd_le (n := 4) ?_
  have h1 := mnt_lt u
  have h2 := mnt_lt v
  rw [BB_pow]
  calc mnt u * mnt v ≤ 9007199254740992 * 9007199254740992 := Nat.mul_le_mul (Nat.le_of_lt h1) (Nat.le_of_lt h2)
    _ < 2 ^ (32 * 4) := by decide

set_option maxHeartbeats 3200000 in
set_option maxRecDepth 100000 in
/-- A product of numbers is added where no infinity came. -/
theorem r3prod_num (s : Bool) (a : Option Addr) (d c : Nat) (e : Int) (u v : Nat) (hu : F64 u) (hv : F64 v) (fu : fin u = true) (fv : fin v = true) (w : World) (hd : Dgs w a d) (hs : nd d ≤ 140) (l : -2148 ≤ e) (r : e ≤ 2000)
    (z : Int) (hz0 : sg s (d * 2 ^ (e + 2148).toNat) = z) (hz : AccB (z + pZ u v)) :
    Calls Try.prog 50 #[.agg #[.int .i64 0, .bool s, .slice a (nd d) c, .int .i64 e], .int .u64 u, .int .u64 v] w (R3Ret (z + pZ u v) false false w) := by
  have HU := Hd.mk (rNumber_any u hu)
  rw [fu] at HU
  have HV := Hd.mk (rNumber_any v hv)
  rw [fv] at HV
  have HO := Hd.mk (of_any u hu)
  have HO' := Hd.mk (of_any v hv)
  have hm := nd_mnt3 u
  have hm' := nd_mnt3 v
  have hp := nd_prod u v
  obtain ⟨eu1, eu2, _⟩ := of_val u hu fu
  obtain ⟨ev1, ev2, _⟩ := of_val v hv fv
  have tv := times_val u v hu hv fu fv _ _ _ _ _ _ rfl rfl rfl rfl rfl rfl
  generalize (ng u && !(mnt u == 0)) = s1 at *
  generalize (if mnt u = 0 then 0 else exq u) = e1 at *
  generalize mnt u = M1 at *
  generalize (ng v && !(mnt v == 0)) = s2 at *
  generalize (if mnt v = 0 then 0 else exq v) = e2 at *
  generalize mnt v = M2 at *
  have HT := Hd.mk fun a1 c1 a2 c2 w1 h1 h2 => times_any s1 a1 M1 c1 e1 s2 a2 M2 c2 e2 w1 h1 h2 (by omega) (by omega) (by omega) (by omega)
  obtain ⟨v1, v2, v3⟩ := tv
  generalize ((s1 != s2) && !(M1 * M2 == 0)) = s' at *
  generalize (if M1 * M2 = 0 then 0 else e1 + e2) = e' at *
  generalize M1 * M2 = M at *
  have HPl := Hd.mk fun a' c' w1 h h' => plus_any s a d c e s' a' M c' e' w1 h h' (by omega) (by omega) (by omega) (by omega)
  obtain ⟨E, hE⟩ : ∃ E, plE d e M e' = E := ⟨_, rfl⟩
  obtain ⟨A, hA⟩ : ∃ A, lowN d e E = A := ⟨_, rfl⟩
  obtain ⟨B, hB⟩ : ∃ B, lowN M e' E = B := ⟨_, rfl⟩
  obtain ⟨p1, p2, p3⟩ := plus_val s d e s' M e' l v1 r (by omega) E A B hE hA hB
  rw [hE, hA, hB] at HPl
  rw [hz0, v3] at p3
  generalize sumS s A s' B = S at *
  generalize sumD s A s' B = K at *
  generalize sumE s A s' B E = E4 at *
  have hK : nd K ≤ 140 := by
    refine AccB_nd hz ?_
    rw [← p3, sg_natAbs]
    exact Nat.le_mul_of_pos_right _ (Nat.pow_pos (by decide))
  have HVal := Hd.mk p3
  have HD := Hd.mk hd
  obtain ⟨n, hnd⟩ : ∃ n, nd d = n := ⟨_, rfl⟩
  rw [hnd] at HPl ⊢
  obtain ⟨st, hst⟩ : ∃ st : Int, st = 0 := ⟨_, rfl⟩
  rw [← hst]
  have hs0 : (st != 0) = false := by rw [hst]; rfl
  have HK := Hd.mk (And.intro hK (And.intro p1 p2))
  clear hu hv fu fv hd hs l r hz0 hz v1 v2 v3 hm hm' hp hE hA hB p1 p2 p3 hK hnd hst eu1 eu2 ev1 ev2
  obtain ⟨W, hW, b1, b2, b3, b4⟩ := two_boxes w st s a n c e
  have c1 := b1.cell
  have c2 := b2.cell
  have B1 := Hd.mk b1
  have B2 := Hd.mk b2
  have B3 := Hd.mk b3
  obtain ⟨x0, x1, x2, x3⟩ := c1
  obtain ⟨y0, y1, y2, y3⟩ := c2
  have HS := Hd.mk b4
  clear b1 b2 b3 b4
  have HW := Hd.mk hW
  go_enter Try.func50, Try.ntmps50
  go_upto_region 1 with fail
  clear hW HW
  have fz := B2.out.frozen
  go_wp2_with fail
  refine (HU.out _).mono ?_; rintro en w' ⟨rfl, rfl⟩
  go_wp2_with fail
  refine (HV.out _).mono ?_; rintro en w' ⟨rfl, rfl⟩
  go_upto_region 5 with fail
  have HG : Hd (Dgs W a d) := ⟨HD.out.below B3.out⟩
  have G0 : Hd (Dgs W.drew a d) := ⟨HG.out.keep fun _ _ _ h => h⟩
  have v1 : W.drew.cell? ⟨w.heap.size, 1, none⟩ = some (.bool s) := x1
  have v2 : W.drew.cell? ⟨w.heap.size, 2, none⟩ = some (.slice a n c) := x2
  have v3 : W.drew.cell? ⟨w.heap.size, 3, none⟩ = some (.int .i64 e) := x3
  go_region_held3 (fun w' => w'.cell? ⟨w.heap.size, 1, none⟩ = some (.bool s) ∧ w'.cell? ⟨w.heap.size, 2, none⟩ = some (.slice a n c) ∧ w'.cell? ⟨w.heap.size, 3, none⟩ = some (.int .i64 e)) (first | with_reducible exact ⟨v1, v2, v3⟩ | with_reducible exact ⟨d1, d2, d3⟩ | with_reducible exact ⟨i1, i2, i3⟩ | with_reducible exact ⟨j1, j2, j3⟩ | with_reducible exact ⟨g1, g2, g3⟩ | with_reducible exact ⟨q1, q2, q3⟩ | (refine ⟨?_, ?_, ?_⟩ <;> go_simp)) (
    first
    | (
    go_at_call 99
    with_reducible refine (HO.out W.drew).mono ?_
    rintro en w3 ⟨a1, k1, rfl, hd2, hb2⟩
    have C1 := Hd.mk ((show Box3 W.drew _ _ _ _ _ _ _ from B1.out).below hb2)
    have C2 := Hd.mk ((show Box3 W.drew _ _ _ _ _ _ _ from B2.out).below hb2)
    have G1 := Hd.mk (G0.out.below hb2)
    have U1 := Hd.mk hd2
    have D3 := Hd.mk (B3.out.drew.trans (hb2.mono B3.out.size))
    have d1 := C1.out.cell.2.1
    have d2 := C1.out.cell.2.2.1
    have d3 := C1.out.cell.2.2.2
    clear hd2 hb2)
    | (
    go_at_call 99
    with_reducible refine (HO'.out w3).mono ?_
    rintro en w6 ⟨a2, k2, rfl, hd2, hb2⟩
    have C3 := Hd.mk (C1.out.below hb2)
    have C4 := Hd.mk (C2.out.below hb2)
    have G2 := Hd.mk (G1.out.below hb2)
    have U2 := Hd.mk (U1.out.below hb2)
    have V2 := Hd.mk hd2
    have D4 := Hd.mk (D3.out.trans (hb2.mono D3.out.size))
    have i1 := C3.out.cell.2.1
    have i2 := C3.out.cell.2.2.1
    have i3 := C3.out.cell.2.2.2
    clear hd2 hb2)
    | (
    go_at_call 101
    refine (HT.out _ _ _ _ _ U2.out V2.out).mono ?_
    rintro en w7 ⟨a3, k3, rfl, hd2, hb2⟩
    have C5 := Hd.mk (C3.out.below hb2)
    have C6 := Hd.mk (C4.out.below hb2)
    have G3 := Hd.mk (G2.out.below hb2)
    have U3 := Hd.mk hd2
    have D5 := Hd.mk (D4.out.trans (hb2.mono D4.out.size))
    have j1 := C5.out.cell.2.1
    have j2 := C5.out.cell.2.2.1
    have j3 := C5.out.cell.2.2.2
    clear hd2 hb2)
    | (
    go_at_call 98
    refine (HPl.out _ _ _ G3.out U3.out).mono ?_
    rintro en w4 ⟨a4, k4, rfl, hd4, hb4⟩
    have F1 := Hd.mk (C5.out.below hb4)
    have F2 := Hd.mk (C6.out.below hb4)
    have F3 := Hd.mk hd4
    have F4 := Hd.mk (D5.out.trans (hb4.mono D5.out.size))
    have g1 := F1.out.cell.2.1
    have g2 := F1.out.cell.2.2.1
    have g3 := F1.out.cell.2.2.2
    have r0 := F2.out.cell.1
    have r1 := F2.out.cell.2.1
    have r2 := F2.out.cell.2.2.1
    have r3 := F2.out.cell.2.2.2
    have fz4 := F2.out.frozen
    have q1 := (set4_other w4 (.int .i64 0) (.bool S) (.slice a4 (nd K) k4) (.int .i64 E4) (Nat.ne_of_lt (Nat.lt_succ_self w.heap.size)) 1).trans g1
    have q2 := (set4_other w4 (.int .i64 0) (.bool S) (.slice a4 (nd K) k4) (.int .i64 E4) (Nat.ne_of_lt (Nat.lt_succ_self w.heap.size)) 2).trans g2
    have q3 := (set4_other w4 (.int .i64 0) (.bool S) (.slice a4 (nd K) k4) (.int .i64 E4) (Nat.ne_of_lt (Nat.lt_succ_self w.heap.size)) 3).trans g3
    clear hd4 hb4))
  go_wp2_with fail
  have HR : Hd (∀ w5, Dgs w5 a4 K → R3 w5 S a4 K E4 (z + pZ u v) false false) := ⟨fun w5 h => ⟨h, HK.out.1, HK.out.2.1, HK.out.2.2, fun _ _ => HVal.out⟩⟩
  refine bodyPost_ret (v := .agg #[.int .i64 0, .bool S, .slice a4 (nd K) k4, .int .i64 E4]) (by simp [results, Try.results50, go_sem, r0, r1, r2, r3]) rfl ⟨S, a4, K, k4, E4, rfl, HR.out _ (F3.out.stored4 F2.out _ _ _ _), ?_⟩
  repeat (refine Below.setCell ?_ (by simp) _)
  exact F4.out

end Go.Proofs.Ytpegicgahbambaa

/- The reference's Prod for every state, and its Dot. -/
namespace Go.Proofs.Ytpegicgahbambaa
open Go.RowKit
set_option linter.unusedSimpArgs false
set_option linter.unusedVariables false

theorem r3prod_any (up dn : Bool) (s : Bool) (a : Option Addr) (d c : Nat) (e : Int) (z : Int) (u v : Nat) (hu : F64 u) (hv : F64 v) (w : World) (h : R3 w s a d e z up dn) (hz : AccB (z + pZ u v)) :
    Calls Try.prog 50 #[.agg #[.int .i64 (stOf up dn), .bool s, .slice a (nd d) c, .int .i64 e], .int .u64 u, .int .u64 v] w (R3Ret (z + pZ u v) (up || puB u v) (dn || pdB u v) w) := by
  cases hf : (fin u && fin v)
  · have h1 : pZ u v = aZ (fmul u v) := by unfold pZ; rw [hf]; rfl
    have h2 : puB u v = upB (fmul u v) := by unfold puB; rw [hf]; rfl
    have h3 : pdB u v = dnB (fmul u v) := by unfold pdB; rw [hf]; rfl
    rw [h1] at hz
    rw [h1, h2, h3]
    exact r3prod_far up dn s a d c e z u v hu hv hf w h hz
  · have h2 : puB u v = false := by unfold puB; rw [hf]; rfl
    have h3 : pdB u v = false := by unfold pdB; rw [hf]; rfl
    rw [h2, h3, Bool.or_false, Bool.or_false]
    rw [Bool.and_eq_true] at hf
    by_cases h0 : up = false ∧ dn = false
    · obtain ⟨rfl, rfl⟩ := h0
      exact r3prod_num s a d c e u v hu hv hf.1 hf.2 w h.dg h.sm h.lo h.hi z (h.val rfl rfl) hz
    · have hst : stOf up dn ≠ 0 := by cases up <;> cases dn <;> simp [stOf] at h0 ⊢
      refine (r3prod_stays (stOf up dn) hst s a d c e u v hu hv hf.1 hf.2 w h.dg).mono ?_
      rintro en w' ⟨rfl, hd, hb⟩
      exact ⟨s, a, d, c, e, rfl, ⟨hd, h.sm, h.lo, h.hi, fun e1 e2 => absurd ⟨e1, e2⟩ h0⟩, hb⟩

set_option maxHeartbeats 800000 in
theorem r3dot_no (a : Option Addr) (n c : Nat) (a' : Option Addr) (n' c' : Nat) (hn : n ≠ n') (w : World) :
    Calls Try.prog 25 #[.slice a n c, .slice a' n' c'] w fun e w' => e = .returned (.tuple #[.int .u64 0, .bool false]) ∧ w = w' := by
  have h : ((n : Int) != n') = true := by rw [bne_iff_ne]; omega
  go_enter Try.func25, Try.ntmps25
  go_wp2_with fail
  go_ret2
  exact ⟨rfl, rfl⟩

set_option maxHeartbeats 1600000 in
set_option maxRecDepth 100000 in
theorem r3dot_any (a : Option Addr) (l : List Nat) (c : Nat) (a2 : Option Addr) (m : List Nat) (c2 : Nat) (w : World) (hl : Us w a l) (hm : Us w a2 m) (hlm : l.length = m.length) (hz : ∀ k, AccB (zD (l.take k) (m.take k))) :
    Calls Try.prog 25 #[.slice a l.length c, .slice a2 m.length c2] w fun en w' => en = .returned (.tuple #[.int .u64 (overA (zD l m) (uD l m) (dD l m) 1), .bool true]) ∧ Below w.heap.size w w' := by
  have HL := Hd.mk hl
  have HM := Hd.mk hm
  have HZ := Hd.mk hz
  have hlen := hl.len
  obtain ⟨n, hn⟩ : ∃ n, l.length = n := ⟨_, rfl⟩
  rw [hn] at hlm hlen ⊢
  rw [← hlm]
  have HN := Hd.mk hn
  have HN' := Hd.mk hlm.symm
  have hq : ((n : Int) != (n : Int)) = false := by simp
  obtain ⟨W, hW, b1, b2⟩ := zero_box w
  have I0 : In3 W w.heap.size (zD (l.take 0) (m.take 0)) (uD (l.take 0) (m.take 0)) (dD (l.take 0) (m.take 0)) 0 false none 0 0 0 := ⟨by rw [show nd 0 = 0 from rfl]; exact b1, by rw [List.take_zero]; rfl, R3.zero _ _ _ _ (fun _ _ => by rw [List.take_zero]; rfl)⟩
  have HI := Hd.mk I0
  have HB0 := Hd.mk b2
  clear hl hm hn hz hlm I0 b1 b2
  go_enter Try.func25, Try.ntmps25
  go_upto_region 4 with fail
  clear hW
  go_wp2_with fail
  go_loopw [7] (fun iv wr => ∃ (k : Nat) (st : Int) (s : Bool) (a' : Option Addr) (d c' : Nat) (e : Int), k ≤ n ∧ iv = .int .i64 k ∧ Hd (In3 wr w.heap.size (zD (l.take k) (m.take k)) (uD (l.take k) (m.take k)) (dD (l.take k) (m.take k)) st s a' d c' e) ∧ Hd (Below w.heap.size w wr)) (fun iv _ => n - (intOf iv).toNat)
  case atStart => exact ⟨0, 0, false, none, 0, 0, 0, Nat.zero_le _, rfl, HI, HB0⟩
  case round =>
    clear HI HB0
    obtain ⟨k, st, s, a', d, c', e, hk, rfl, HI, HB⟩ := hrel
    obtain ⟨x0, x1, x2, x3⟩ := HI.out.box.cell
    by_cases hlt : k < n
    · obtain ⟨b, o, ha, hc⟩ := (HL.out.below HB.out).at k (by rw [HN.out]; exact hlt)
      subst ha
      obtain ⟨b', o', ha2, hc2⟩ := (HM.out.below HB.out).at k (by rw [HN'.out]; exact hlt)
      subst ha2
      have hlt' : (k : Int) < n := by omega
      have HS := Hd.mk (zD_take l m k (by rw [HN.out]; exact hlt) (by rw [HN'.out]; exact hlt))
      have HA : Hd (∀ w', R3 w' s a' d e (zD (l.take k) (m.take k)) (uD (l.take k) (m.take k)) (dD (l.take k) (m.take k)) → Calls Try.prog 50 #[.agg #[.int .i64 st, .bool s, .slice a' (nd d) c', .int .i64 e], .int .u64 (l.getD k 0), .int .u64 (m.getD k 0)] w' (R3Ret (zD (l.take (k + 1)) (m.take (k + 1))) (uD (l.take (k + 1)) (m.take (k + 1))) (dD (l.take (k + 1)) (m.take (k + 1))) w')) := ⟨fun w' h => by
        have hz := HZ.out (k + 1)
        rw [HS.out.1] at hz
        rw [HS.out.1, HS.out.2.1, HS.out.2.2, HI.out.st]
        exact r3prod_any _ _ s a' d c' e _ _ _ (HL.out.wf k) (HM.out.wf k) w' h hz⟩
      have k0 : (0 : Int) ≤ k := by omega
      have BX := Hd.mk HI.out.box
      generalize l.getD k 0 = x at *
      generalize m.getD k 0 = y at *
      obtain ⟨N, hN⟩ : ∃ N, nd d = N := ⟨_, rfl⟩
      rw [hN] at HA x2 BX
      clear hlt hN HS
      go_wp2_with fail
      have y0 : wr.drew.cell? ⟨w.heap.size, 0, none⟩ = _ := x0
      have y1 : wr.drew.cell? ⟨w.heap.size, 1, none⟩ = _ := x1
      have y2 : wr.drew.cell? ⟨w.heap.size, 2, none⟩ = _ := x2
      have y3 : wr.drew.cell? ⟨w.heap.size, 3, none⟩ = _ := x3
      have hc' : wr.drew.cell? ⟨b, o + k, none⟩ = some (.int .u64 x) := hc
      have hc2' : wr.drew.cell? ⟨b', o' + k, none⟩ = some (.int .u64 y) := hc2
      refine wp_region_still_tail 9 (by kernel_rfl) (by kernel_rfl) ?_
      simp only [List.take_succ_cons, List.take_zero, List.drop_succ_cons, List.drop_zero]
      change wpStill _ _ wr.drew _ _ _
      iterate 9 still_step
      refine wpStill_nil ?_
      change wpList _ _ _ _ _ wr.drew
      go_wp2_with fail
      refine (HA.out _ (HI.out.r3.below (Below.refl _ _).drew)).mono ?_; rintro en w5 ⟨s5, a5, d5, c5, e5, rfl, hr, hb⟩
      have BX5 := Hd.mk ((show Box3 wr.drew _ _ _ _ _ _ _ from BX.out).below hb)
      have HB5 := Hd.mk (HB.out.drew.trans (hb.mono HB.out.size))
      have IN := Hd.mk (In3.store BX5.out hr c5)
      have fz := BX5.out.frozen
      obtain ⟨z0, z1, z2, z3⟩ := BX5.out.cell
      clear hb hr x0 x1 x2 x3 y0 y1 y2 y3
      go_wp2_with fail
      refine ⟨⟨k + 1, _, s5, a5, d5, c5, e5, by omega, by go_num, IN, ⟨?_⟩⟩, by simp [intOf]; omega⟩
      repeat (refine Below.setCell ?_ (by simp) _)
      exact HB5.out
    · have hge : (n : Int) ≤ k := by omega
      have he : Hd (l.take k = l ∧ m.take k = m) := ⟨List.take_of_length_le (by rw [HN.out]; omega), List.take_of_length_le (by rw [HN'.out]; omega)⟩
      have HV : Hd (Calls Try.prog 59 #[.agg #[.int .i64 st, .bool s, .slice a' (nd d) c', .int .i64 e]] wr (URet (overA (zD l m) (uD l m) (dD l m) 1) wr)) := ⟨by
        have h1 := HI.out.r3
        have h2 := HI.out.st
        rw [he.out.1, he.out.2] at h1 h2
        rw [h2]
        exact r3value_any _ _ s a' d c' e _ wr h1⟩
      obtain ⟨v, hv⟩ : ∃ v, overA (zD l m) (uD l m) (dD l m) 1 = v := ⟨_, rfl⟩
      rw [hv] at HV
      have HVE := Hd.mk hv
      clear hv
      obtain ⟨N, hN⟩ : ∃ N, nd d = N := ⟨_, rfl⟩
      rw [hN] at HV x2
      clear hlt hN
      go_wp2_with fail
      refine (HV.out).mono ?_; rintro en w2 ⟨rfl, hb⟩
      have HB2 := Hd.mk (HB.out.trans (hb.mono HB.out.size))
      clear hb
      go_wp2_with fail
      go_ret2
      exact ⟨by rw [HVE.out]; simp, HB2.out⟩

end Go.Proofs.Ytpegicgahbambaa

/- The walk of tenorlaw1.Bits, with the room of the list that it makes. -/
namespace Go.Proofs.Ytpegicgahbambaa
open Go.RowKit
set_option linter.unusedSimpArgs false
set_option linter.unusedVariables false

theorem us_of_owns_room {w : World} {base : Nat} {v : Value} {l : List Nat} (h : w.ownsRow base 26 1 v l.length (wds l)) (hf : ∀ i, F64 (l.getD i 0)) (hl : l.length ≤ 1000000000) :
    ∃ a c, v = .slice a l.length c ∧ Us w a l ∧ l.length ≤ c ∧ c ≤ 9223372036854775807 := by
  obtain ⟨a, c, rfl, hu⟩ := us_of_owns h hf hl
  refine ⟨a, c, rfl, hu, ?_⟩
  obtain ⟨_, ⟨e, h0⟩ | ⟨g, cap, cur, e, _, _, h1, h2, _⟩⟩ := h
  · simp only [Value.slice.injEq] at e
    obtain ⟨_, e2, e3⟩ := e
    omega
  · simp only [Value.slice.injEq] at e
    obtain ⟨_, e2, e3⟩ := e
    rw [e3]
    exact ⟨h1, Nat.le_trans h2 (by unfold maxLen; decide)⟩

set_option maxHeartbeats 8000000 in
theorem bitsR_any (a : Option Addr) (l : List Nat) (c : Nat) (w : World) (hl : Fls w a l) (h20 : l.length ≤ 1000) :
    Calls Try.prog 23 #[.slice a l.length c] w fun e w' => ∃ a' c', e = .returned (.slice a' l.length c') ∧ Us w' a' l ∧ (l.length ≤ c' ∧ c' ≤ 9223372036854775807) ∧ Below w.heap.size w w' := by
  have HL := Hd.mk hl
  obtain ⟨n, hn⟩ : ∃ n, l.length = n := ⟨_, rfl⟩
  rw [hn] at h20 ⊢
  have HN := Hd.mk hn
  obtain ⟨i0, hi, hz0, hz1, hz2⟩ := info_parts info_u64
  have hcell : Hd (∀ k, k < n → ∃ b o, a = some ⟨b, o, none⟩ ∧ w.cell? ⟨b, o + k, none⟩ = some (.float .f64 (l.getD k 0))) := ⟨fun k hk => by
    cases a with
    | none => have := hl.nil rfl; rw [this] at hn; simp at hn; omega
    | some p => obtain ⟨b, o, v⟩ := p; obtain ⟨rfl, h⟩ := hl.cell b o v rfl k (by omega); exact ⟨b, o, rfl, h⟩⟩
  clear hl hn
  go_enter Try.func23, Try.ntmps23
  go_wp2_with fail
  go_loopw [3, 4] (fun v i wr => ∃ k : Nat, k ≤ n ∧ i = .int .i64 k ∧ Hd (wr.ownsRow w.heap.size 26 1 v k (wds (l.take k))) ∧ Hd (Below w.heap.size w wr)) (fun _ i _ => n - (intOf i).toNat)
  case atStart => exact ⟨0, Nat.zero_le _, rfl, ⟨⟨by simp [wds], .inl ⟨rfl, rfl⟩⟩⟩, ⟨Below.refl _ _⟩⟩
  case round =>
    obtain ⟨k, hk, rfl, HO, HB⟩ := hrel
    by_cases hlt : k < n
    · have hlt' : (k : Int) < n := by omega
      have k0 : (0 : Int) ≤ k := by omega
      obtain ⟨b, o, rfl, hc⟩ := hcell.out k hlt
      have hc' : wr.cell? ⟨b, o + k, none⟩ = some (.float .f64 (l.getD k 0)) := cell_of_below HB.out (Nat.le_refl _) hc
      clear hc
      have HT := Hd.mk (wds_take l k (by rw [HN.out]; exact hlt))
      generalize l.getD k 0 = x at *
      go_wp2_with fail
      refine (apiBits_any _ _).mono ?_; rintro en w' ⟨rfl, rfl⟩
      go_wp2_with (first
        | (at_builtin; refine wpList_append_own _ rfl _ _ 37 rfl w.heap.size 26 i0 (.int .u64 0) 1 8 Try.underlying37 hi hz0 hz1 hz2 rfl (by decide) _ _ _ rfl (HO.out.alloc _) ⟨wr.heap.size, 0, none⟩ 1 1 [.int .u64 x] rfl rfl ?c1 ?c2 ?c3 ?c4 ?c5 ?_)
        | fail)
      case c1 =>
        intro j u hj
        match j, hj with
        | 0, hj => simp at hj; subst hj; simp [Addr.add]
      case c2 => intro u hu; simp at hu; subst hu; rfl
      case c3 => unfold maxLen; omega
      case c4 => omega
      case c5 => have := HB.out.size; simp; omega
      · intro v' w1 hown' hgrow _
        rw [← HT.out] at hown'
        have HO' := Hd.mk hown'
        have HB' : Hd (Below w.heap.size w w1) := ⟨by
          refine (HB.out.alloc HB.out.size _).grown hgrow (by have := HB.out.size; simp; omega) ?_
          exact owns_block HO.out⟩
        clear hown' hgrow
        go_wp2_with fail
        refine ⟨⟨k + 1, by omega, by go_num, HO', HB'⟩, by simp [intOf]; omega⟩
    · obtain rfl : k = n := by omega
      go_wp2_with fail
      go_ret
      have h := HO.out
      rw [show l.take k = l by rw [List.take_of_length_le (by have := HN.out; omega)]] at h
      obtain ⟨a', c', rfl, hu, hr⟩ := us_of_owns_room (l := l) (by rw [HN.out]; exact h) HL.out.wf (by have := HN.out; omega)
      rw [HN.out] at hr ⊢
      exact ⟨a', c', rfl, hu, hr, HB.out⟩

end Go.Proofs.Ytpegicgahbambaa

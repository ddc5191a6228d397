/- Put together out of several texts: Yv Yw. -/
import Derived.Test.YteikihidblcljaaM15

/- Plain: the order of pairs and of flows makes nothing. -/
namespace Go.Proofs.Yteikihidblcljaa
set_option linter.unusedSimpArgs false
set_option linter.unusedVariables false

theorem newT_of_good (l : List Pr) (g : Good l) : ∀ n, n ≤ l.length → newT l n = (0, 0)
  | 0, _ => rfl
  | n + 1, h => by
    have ih := newT_of_good l g n (by omega)
    have hm : l.getD n pr0 ∈ l := getD_memP (by omega)
    obtain ⟨c1, c2, c3⟩ := g.tree.cy _ hm
    refine newT_ok l n (by rw [ih]) (by unfold okCy; simpa using c1) (by unfold okCy; simpa using c2) c3 (okRt_of (g.pos _ hm)) ?_
    have t : Tree (l.take (n + 1)) := Tree.left (M := l.drop (n + 1)) (by rw [List.take_append_drop]; exact g.tree)
    rw [take_snocP l n (by omega)] at t
    exact t.apart
/-- New takes pairs just if they make trees of good rates. -/
theorem newA_iff {l : List Pr} (hw : ∀ i, F64 (l.getD i pr0).x) : (newA l).1 = 0 ↔ l.length ≤ 28 ∧ Good l := by
  constructor
  · intro h
    unfold newA at h
    split at h
    · simp at h
    · have := newT_good l hw l.length (Nat.le_refl _) h
      rw [List.take_of_length_le (Nat.le_refl _)] at this
      exact ⟨by omega, this⟩
  · rintro ⟨h, g⟩
    unfold newA
    rw [if_neg (by omega), newT_of_good l g _ (Nat.le_refl _)]
theorem Good.perm {L M : List Pr} (h : L.Perm M) (g : Good L) : Good M := ⟨g.tree.perm h, fun p hp => g.pos p (h.mem_iff.2 hp)⟩
theorem wk_perm {L M : List Pr} (h : L.Perm M) {f a b : Int} {l : List (Pr × Bool)} : Wk L f a b l ↔ Wk M f a b l :=
  ⟨fun w => w.mono fun p hp => h.mem_iff.1 hp, fun w => w.mono fun p hp => h.mem_iff.2 hp⟩
theorem crsT_perm {L M : List Pr} (h : L.Perm M) (u : Uq L) (a b : Int) : crsT L a b = crsT M a b := by
  by_cases hc : chkC a b = 0
  · by_cases hx : ∃ l, Wk L 0 a b l
    · obtain ⟨l, w⟩ := hx
      rw [crsT_way u hc w, crsT_way (Uq.mono (fun p hp => h.mem_iff.2 hp) u) hc ((wk_perm h).1 w)]
    · rw [crsT_no hc (fun l w => hx ⟨l, w⟩), crsT_no hc (fun l w => hx ⟨l, (wk_perm h).2 w⟩)]
  · rw [crsT_bad hc, crsT_bad hc]
theorem getD_P {l : List Pr} (P : Pr → Prop) (h0 : P pr0) : (∀ i, P (l.getD i pr0)) ↔ ∀ p, p ∈ l → P p := by
  constructor
  · intro h p hp
    obtain ⟨i, hi, e⟩ := List.getElem_of_mem hp
    have := h i
    rw [List.getD_eq_getElem?_getD, List.getElem?_eq_getElem hi] at this
    rw [← e]; exact this
  · intro h i
    by_cases hi : i < l.length
    · exact h _ (getD_memP hi)
    · rw [List.getD_eq_getElem?_getD, List.getElem?_eq_none (by omega)]; exact h0
/-- Pairs in another order are taken, or not, alike. -/
theorem newA_perm {l m : List Pr} (h : l.Perm m) (hl : ∀ i, F64 (l.getD i pr0).x) : (∀ i, F64 (m.getD i pr0).x) ∧ ((newA l).1 = 0 ↔ (newA m).1 = 0) := by
  have h1 : ∀ i, F64 (m.getD i pr0).x := (getD_P (fun p => F64 p.x) ⟨by decide⟩).2 fun p hp => (getD_P (fun p => F64 p.x) ⟨by decide⟩).1 hl p (h.mem_iff.2 hp)
  refine ⟨h1, ?_⟩
  rw [newA_iff hl, newA_iff h1, h.length_eq]
  exact ⟨fun ⟨a, g⟩ => ⟨a, g.perm h⟩, fun ⟨a, g⟩ => ⟨a, g.perm h.symm⟩⟩

/-- Flows. -/
theorem getD_F {l : List Fw} {i : Nat} (hi : i < l.length) : l.getD i fw0 = l[i] := by
  rw [List.getD_eq_getElem?_getD, List.getElem?_eq_getElem hi]; rfl
theorem all_F {l : List Fw} (P : Fw → Prop) : (∀ i, i < l.length → P (l.getD i fw0)) ↔ ∀ f, f ∈ l → P f := by
  constructor
  · intro h f hf
    obtain ⟨i, hi, e⟩ := List.getElem_of_mem hf
    have := h i hi
    rw [getD_F hi, e] at this
    exact this
  · intro h i hi
    rw [getD_F hi]
    exact h _ (List.getElem_mem hi)
theorem chkFn_zero (l : List Fw) : ∀ n, (∀ i, i < n → badF (l.getD i fw0) = 0) → chkFn l n = (0, 0)
  | 0, _ => rfl
  | n + 1, h => chkFn_next l n (chkFn_zero l n fun i hi => h i (by omega)) (h n (by omega))
theorem bgF_iff {l : List Fw} {tc : Int} : bgF l tc = 0 ↔ l.length ≤ 4096 ∧ (∀ f, f ∈ l → badF f = 0) ∧ chkC tc tc = 0 := by
  constructor
  · intro h
    obtain ⟨a, b⟩ := bgF_ok h
    obtain ⟨c, d⟩ := chkF_ok a
    exact ⟨c, (all_F fun f => badF f = 0).1 d, b⟩
  · rintro ⟨a, b, c⟩
    have : chkF l = (0, 0) := by
      unfold chkF
      rw [if_neg (by omega)]
      exact chkFn_zero l _ ((all_F fun f => badF f = 0).2 b)
    unfold bgF
    rw [this, if_neg (by simp), c]
theorem feN_iff (L : List Pr) (tc : Int) (l : List Fw) : ∀ n, feN L tc l n = 0 ↔ ∀ i, i < n → (crsT L (l.getD i fw0).c tc).2 = 0
  | 0 => ⟨fun _ i hi => by omega, fun _ => rfl⟩
  | n + 1 => by
    rw [feN]
    by_cases h : feN L tc l n ≠ 0
    · rw [if_pos h]
      exact ⟨fun e => absurd e h, fun e => absurd ((feN_iff L tc l n).2 fun i hi => e i (by omega)) h⟩
    · rw [if_neg h]
      have h' := (feN_iff L tc l n).1 (by omega)
      refine ⟨fun e i hi => ?_, fun e => e n (by omega)⟩
      by_cases e' : i = n
      · subst e'; exact e
      · exact h' i (by omega)
/-- The sum as a sum over the list. -/
noncomputable def smZ (L : List Pr) (tc : Int) : List Fw → Int
  | [] => 0
  | f :: l => pZ f.x (crsT L f.c tc).1 + smZ L tc l
theorem smZ_snoc (L : List Pr) (tc : Int) (f : Fw) : ∀ l, smZ L tc (l ++ [f]) = smZ L tc l + pZ f.x (crsT L f.c tc).1
  | [] => by simp [smZ]
  | g :: l => by rw [List.cons_append, smZ, smZ, smZ_snoc L tc f l]; omega
theorem smZ_perm (L : List Pr) (tc : Int) {l m : List Fw} (h : l.Perm m) : smZ L tc l = smZ L tc m := by
  induction h with
  | nil => rfl
  | cons x _ ih => rw [smZ, smZ, ih]
  | swap x y l => simp only [smZ]; omega
  | trans _ _ i j => rw [i, j]
theorem sumZ_eq (L : List Pr) (tc : Int) (l : List Fw) : ∀ n, n ≤ l.length → sumZ L tc l n = smZ L tc (l.take n)
  | 0, _ => by simp [sumZ, smZ]
  | n + 1, h => by
    rw [sumZ, sumZ_eq L tc l n (by omega), List.take_succ_eq_append_getElem (by omega), smZ_snoc, getD_F (by omega)]
/-- The order of the flows makes nothing. -/
theorem sumT_perm (L : List Pr) (tc : Int) {l m : List Fw} (h : l.Perm m) : ((sumT L l tc).2 = 0 ↔ (sumT L m tc).2 = 0) ∧ (sumT L l tc).1 = (sumT L m tc).1 := by
  have h1 : bgF l tc = 0 ↔ bgF m tc = 0 := by
    rw [bgF_iff, bgF_iff, h.length_eq]
    exact ⟨fun ⟨a, b, c⟩ => ⟨a, fun f hf => b f (h.mem_iff.2 hf), c⟩, fun ⟨a, b, c⟩ => ⟨a, fun f hf => b f (h.mem_iff.1 hf), c⟩⟩
  have h2 : feN L tc l l.length = 0 ↔ feN L tc m m.length = 0 := by
    rw [feN_iff, feN_iff, all_F (fun f => (crsT L f.c tc).2 = 0), all_F (fun f => (crsT L f.c tc).2 = 0)]
    exact ⟨fun b f hf => b f (h.mem_iff.2 hf), fun b f hf => b f (h.mem_iff.1 hf)⟩
  have h3 : sumZ L tc l l.length = sumZ L tc m m.length := by
    rw [sumZ_eq L tc l _ (Nat.le_refl _), sumZ_eq L tc m _ (Nat.le_refl _), List.take_of_length_le (Nat.le_refl _), List.take_of_length_le (Nat.le_refl _), smZ_perm L tc h]
  unfold sumT
  generalize sumZ L tc l l.length = z at *
  generalize feN L tc l l.length = u at *
  generalize feN L tc m m.length = v at *
  generalize bgF l tc = c at *
  generalize bgF m tc = d at *
  subst h3
  by_cases a : c = 0
  · have a' := h1.1 a
    subst a a'
    by_cases b : u = 0
    · have b' := h2.1 b
      subst b b'
      exact ⟨Iff.rfl, rfl⟩
    · have b' : v ≠ 0 := fun e => b (h2.2 e)
      simp only [ne_eq, not_true_eq_false, if_false, b, b', not_false_eq_true, if_true, and_self]
  · have a' : d ≠ 0 := fun e => a (h1.2 e)
    rw [if_pos a, if_pos a']
    exact ⟨⟨fun e => absurd e a, fun e => absurd e a'⟩, rfl⟩

end Go.Proofs.Yteikihidblcljaa

/- Plain: the rate of a pair's own two is told to the bit, the turned one is 1 over it, and a currency against itself is 1. -/
namespace Go.Proofs.Yteikihidblcljaa
set_option linter.unusedSimpArgs false
set_option linter.unusedVariables false

theorem rnd_self (x : Nat) (hf : fin x = true) : rnd (mnt x) (exq x) false = mg x := by
  unfold fin INF at hf
  have hf := of_decide_eq_true hf
  unfold mnt exq
  by_cases h : mg x < 4503599627370496
  · rw [if_pos h, if_pos h]
    have hb : bl (mg x) ≤ 52 := bl_le (by rw [show (2 : Nat) ^ 52 = 4503599627370496 by decide]; exact h)
    have hl : lsb (mg x) (-1074) = -1074 := by unfold lsb; omega
    unfold rnd
    rw [hl, if_pos (Int.le_refl _)]
    simp
  · rw [if_neg h, if_neg h]
    obtain ⟨q, hq⟩ : ∃ q, mg x / 4503599627370496 = q := ⟨_, rfl⟩
    obtain ⟨r, hr⟩ : ∃ r, mg x % 4503599627370496 = r := ⟨_, rfl⟩
    rw [hq, hr]
    have hm := Nat.div_add_mod (mg x) 4503599627370496
    rw [hq, hr] at hm
    have hr2 : r < 4503599627370496 := by omega
    have hq1 : 1 ≤ q := by omega
    have b1 : bl (4503599627370496 + r) ≤ 53 := bl_le (by rw [show (2 : Nat) ^ 53 = 9007199254740992 by decide]; omega)
    have b2 : 53 ≤ bl (4503599627370496 + r) := by
      refine Nat.le_of_not_lt fun hc => ?_
      have h3 := bl_lt (4503599627370496 + r)
      have h4 : 2 ^ bl (4503599627370496 + r) ≤ 2 ^ 52 := Nat.pow_le_pow_right (by decide) (by omega)
      rw [show (2 : Nat) ^ 52 = 4503599627370496 by decide] at h4
      omega
    have hl : lsb (4503599627370496 + r) (-1074 + ((q - 1 : Nat) : Int)) = -1074 + ((q - 1 : Nat) : Int) := by unfold lsb; omega
    unfold rnd
    rw [hl, if_pos (Int.le_refl _)]
    rw [show (-1074 + ((q - 1 : Nat) : Int) - (-1074 + ((q - 1 : Nat) : Int))).toNat = 0 by omega, show (-1074 + ((q - 1 : Nat) : Int) + 1074).toNat = q - 1 by omega]
    omega
theorem nz_0 : nz 0 = false := by decide
theorem bl_1 : bl 1 = 1 := by decide
theorem quo_one (x : Nat) (h : Rate x) : quo (mnt x) (exq x) 1 0 = x := by
  have h0 := h.mnt.1
  have hm := h.fin
  unfold fin INF at hm
  have hm := of_decide_eq_true hm
  have hx : mg x = x := by
    have h1 := h.pos
    have h2 := h.wf.out
    unfold ng at h1
    have h1 := of_decide_eq_false h1
    exact mg_small x (by omega)
  unfold quo overN
  rw [if_neg h0, Nat.div_one, Nat.mod_one, nz_0]
  unfold nearM
  rw [if_neg (Nat.mul_ne_zero h0 (Nat.pos_iff_ne_zero.1 (Nat.pow_pos (by decide)))), Int.sub_zero, rnd_scale _ _ _ h0, rnd_self x h.fin]
  unfold madeN
  rw [if_neg (by decide), hx]
  omega
theorem overN_shift (s : Bool) (d j : Nat) (e : Int) (d' : Nat) (e' : Int) (hd : d ≠ 0) (hj : bl d + j ≤ 70 + bl d') : overN s (d * 2 ^ j) (e - j) d' e' = overN s d e d' e' := by
  have h2 : d * 2 ^ j ≠ 0 := Nat.mul_ne_zero hd (Nat.pos_iff_ne_zero.1 (Nat.pow_pos (by decide)))
  unfold overN
  rw [if_neg hd, if_neg h2]
  have hk : ovK (d * 2 ^ j) d' = ovK d d' - j := by unfold ovK; rw [bl_shift hd]; omega
  have hk2 : j ≤ ovK d d' := by unfold ovK; omega
  rw [hk]
  generalize ovK d d' = K at *
  rw [Nat.mul_assoc, ← Nat.pow_add, show j + (K - j) = K by omega, show e - (j : Int) - ((K - j : Nat) : Int) - e' = e - K - e' by omega]
def oneFx : Nat := 4607182418800017408
theorem oneFx_facts : F64 oneFx ∧ fin oneFx = true ∧ ng oneFx = false ∧ mg oneFx = oneFx ∧ mnt oneFx = 4503599627370496 ∧ exr oneFx = -52 ∧ nn oneFx = false := by
  refine ⟨⟨by decide⟩, ?_, ?_, ?_, ?_, ?_, ?_⟩ <;> decide +kernel
theorem quo_back (x : Nat) (h : Rate x) : quo 1 0 (mnt x) (exq x) = fdiv oneFx x := by
  obtain ⟨o1, o2, o3, o4, o5, o6, o7⟩ := oneFx_facts
  rw [fdiv_ff oneFx x o1 h.wf o2 h.fin h.nz false, o5, o6]
  have hs : sgw oneFx x = 0 := by unfold sgw; rw [o3, h.pos]; rfl
  have he : exr x = exq x := by unfold exr; rw [if_neg h.mnt.1]
  rw [hs, he, Nat.zero_add]
  have hb : 1 ≤ bl (mnt x) := bl_pos h.mnt.1
  have := overN_shift false 1 52 0 (mnt x) (exq x) (by decide) (by rw [bl_1]; omega)
  rw [show (1 : Nat) * 2 ^ 52 = 4503599627370496 by decide, show (0 : Int) - ((52 : Nat) : Int) = -52 by decide] at this
  rw [this]
  obtain ⟨q1, q2, q3⟩ := quo_F64 1 0 (mnt x) (exq x)
  unfold quo at *
  generalize overN false 1 0 (mnt x) (exq x) = y at *
  unfold ng at q3
  have q3 := of_decide_eq_false q3
  have := q1.out
  exact (mg_small y (by omega)).symm
theorem quo_11 : quo 1 0 1 0 = oneFx := by decide +kernel

theorem chkC_ok {a b : Int} (h1 : 1 ≤ a ∧ a ≤ 8) (h2 : 1 ≤ b ∧ b ≤ 8) : chkC a b = 0 := by
  unfold chkC okCy
  simp [h1, h2]
/-- A currency against itself. -/
theorem crsT_self (L : List Pr) (u : Uq L) {a : Int} (h : chkC a a = 0) : crsT L a a = (oneFx, 0) := by
  have w : Wk L 0 a a [] := rfl
  rw [crsT_way u h w]
  have hq : crQ [] = oneFx := quo_11
  have hm : mg oneFx ≠ 0 := by rw [oneFx_facts.2.2.2.1]; decide
  unfold crA
  rw [hq, if_neg (by rw [oneFx_facts.2.1]; simp [hm])]
/-- A pair's own two. -/
theorem crsT_own (L : List Pr) (g : Good L) {p : Pr} (hp : p ∈ L) : crsT L p.a p.b = (p.x, 0) := by
  obtain ⟨c1, c2, c3⟩ := g.tree.cy p hp
  have r := g.pos p hp
  have w : Wk L 0 p.a p.b [(p, false)] := by
    refine ⟨hp, rfl, ?_, rfl⟩
    show p.b ≠ 0
    omega
  rw [crsT_way g.tree.uq (chkC_ok c1 c2) w]
  have hq : crQ [(p, false)] = p.x := by
    unfold crQ
    have := quo_one p.x r
    simpa [wM, wE] using this
  unfold crA
  rw [hq, if_neg (by rw [r.fin]; simp [r.nz])]
/-- A pair's own two, turned. -/
theorem crsT_back (L : List Pr) (g : Good L) {p : Pr} (hp : p ∈ L) : crsT L p.b p.a = (fdiv oneFx p.x, 0) ∨ (crsT L p.b p.a).2 = 91 := by
  obtain ⟨c1, c2, c3⟩ := g.tree.cy p hp
  have r := g.pos p hp
  have w : Wk L 0 p.b p.a [(p, true)] := by
    refine ⟨hp, rfl, ?_, rfl⟩
    show p.a ≠ 0
    omega
  rw [crsT_way g.tree.uq (chkC_ok c2 c1) w]
  have hq : crQ [(p, true)] = fdiv oneFx p.x := by
    rw [← quo_back p.x r]
    unfold crQ
    simp [wM, wE]
  unfold crA
  rw [hq]
  split
  · exact Or.inr rfl
  · exact Or.inl rfl

end Go.Proofs.Yteikihidblcljaa

/- Plain: a table's values turned in sign: what a place holds is turned. No program. -/
import Derived.Test.YteikihidblcljaaWhC
namespace Go.Proofs.Yteikihidblcljaa
set_option linter.unusedSimpArgs false
set_option linter.unusedVariables false

structure OpT (X : List Int) (Y Y' : List Nat) (n : Nat) : Prop where
  ok : TOk X Y n
  ok' : TOk X Y' n
  op : ∀ i, i < n → Op (Y.getD i 0) (Y'.getD i 0)
theorem rs_op {X : List Int} {Y Y' : List Nat} {n : Nat} (h : OpT X Y Y' n) {k : Nat} (hk : k + 1 < n) : Op (rsT X Y k) (rsT X Y' k) := by
  obtain ⟨f1, f2, f3⟩ := h.ok.fi hk
  exact op_div (op_sub (h.op (k + 1) hk) (h.op k (by omega)) (h.ok.fn _ hk)) f1 f2 f3
theorem op_zero : Op 0 0 := ⟨⟨by decide⟩, ⟨by decide⟩, by decide +kernel, by decide +kernel, by decide +kernel⟩
theorem op_lt {a a' : Nat} (o : Op a a') : ltF 0 a' = ltF a 0 ∧ ltF a' 0 = ltF 0 a := by
  have h0 : rk 0 = 0 := by decide +kernel
  have n0 : nn 0 = false := by decide +kernel
  unfold ltF
  rw [n0, o.nx, o.ny, h0, o.rk]
  simp only [Bool.not_false, Bool.true_and]
  exact ⟨decide_eq_decide.2 (by omega), decide_eq_decide.2 (by omega)⟩
theorem hm_op {a a' b b' : Nat} (oa : Op a a') (ob : Op b b') : Op (hmT a b) (hmT a' b') := by
  unfold hmT
  rw [(op_lt oa).1, (op_lt oa).2, (op_lt ob).1, (op_lt ob).2, Bool.or_comm (ltF a 0 && ltF b 0)]
  by_cases hc : ((ltF 0 a && ltF 0 b) || (ltF a 0 && ltF b 0)) = true
  rotate_left
  · rw [if_neg hc, if_neg hc]; exact op_zero
  rw [if_pos hc, if_pos hc]
  have nz0 : ∀ x, ltF 0 x = true ∨ ltF x 0 = true → mg x ≠ 0 := fun x hx e => by
    have h1 : rk x = 0 := by unfold rk; rw [e]; split <;> rfl
    have h0 : rk 0 = 0 := by decide +kernel
    unfold ltF at hx
    rw [h1, h0] at hx
    simp at hx
  have hs : ng a = ng b ∧ mg a ≠ 0 ∧ mg b ≠ 0 := by
    simp only [Bool.or_eq_true, Bool.and_eq_true] at hc
    rcases hc with ⟨h1, h2⟩ | ⟨h1, h2⟩
    · exact ⟨by rw [ltF_ng h1, ltF_ng h2], nz0 a (Or.inl h1), nz0 b (Or.inl h2)⟩
    · exact ⟨by rw [ltF_ng' h1, ltF_ng' h2], nz0 a (Or.inr h1), nz0 b (Or.inr h2)⟩
  obtain ⟨o1, o2, o3, o4, _⟩ := one_ok
  obtain ⟨t1, t2, t3, _⟩ := two_ok
  have p := fl_den (oa.fl hs.2.1) o1 o2 o3
  have q := fl_den (ob.fl hs.2.2) o1 o2 o3
  have hpq : ng (fdiv one64 a) = ng (fdiv one64 b) := by rw [ng_fdiv o1 oa.fx o2 o3 oa.nx, ng_fdiv o1 ob.fx o2 o3 ob.nx, hs.1]
  exact (fl_den (fl_add p q hpq) t1 t2 t3).op
theorem sl_op {X : List Int} {Y Y' : List Nat} {n : Nat} (h : OpT X Y Y' n) {k : Nat} (hk : k < n) : Op (slT X Y n k) (slT X Y' n k) := by
  unfold slT
  by_cases h1 : n = 1
  · rw [if_pos h1, if_pos h1]; exact op_zero
  · rw [if_neg h1, if_neg h1]
    by_cases h2 : k = 0
    · rw [if_pos h2, if_pos h2]; exact rs_op h (by omega)
    · rw [if_neg h2, if_neg h2]
      by_cases h3 : k + 1 = n
      · rw [if_pos h3, if_pos h3]; exact rs_op h (by omega)
      · rw [if_neg h3, if_neg h3]; exact hm_op (rs_op h (by omega)) (rs_op h (by omega))
theorem q_op {X : List Int} {Y Y' : List Nat} {n : Nat} (h : OpT X Y Y' n) {k j : Nat} (hk : k + 1 < n) (hj : j < n) :
    Op (fdiv (fmul (slT X Y n j) (FI (X.getD (k + 1) 0 - X.getD k 0))) thr64) (fdiv (fmul (slT X Y' n j) (FI (X.getD (k + 1) 0 - X.getD k 0))) thr64) := by
  obtain ⟨f1, f2, f3⟩ := h.ok.fi hk
  obtain ⟨t1, t2, t3, _⟩ := thr_ok
  exact op_div (op_mul (sl_op h hj) f1 f2 f3) t1 t2 t3
theorem rk_hld {v a b : Nat} (h1 : nn v = false) (h2 : nn a = false) (h3 : nn b = false) : rk (hld v a b) = max (min (rk a) (rk b)) (min (max (rk a) (rk b)) (rk v)) := by
  have L : ∀ x y, nn x = false → nn y = false → ltF x y = decide (rk x < rk y) := fun x y hx hy => by unfold ltF; rw [hx, hy]; rfl
  unfold hld
  by_cases e : rk a = rk b
  · rw [if_pos e, L b a h3 h2, L v b h1 h3, L a v h2 h1, L v a h1 h2]
    simp only [decide_eq_true_eq]
    repeat' split
    all_goals omega
  · rw [if_neg e, L b a h3 h2, L v b h1 h3, L a v h2 h1, L v a h1 h2, L b v h3 h1]
    simp only [decide_eq_true_eq]
    repeat' split
    all_goals omega
theorem op_hld {v v' a a' b b' : Nat} (ov : Op v v') (oa : Op a a') (ob : Op b b') : Op (hld v a b) (hld v' a' b') := by
  refine ⟨F64_hld ov.fx oa.fx ob.fx, F64_hld ov.fy oa.fy ob.fy, nn_hld ov.nx oa.nx ob.nx, nn_hld ov.ny oa.ny ob.ny, ?_⟩
  rw [rk_hld ov.nx oa.nx ob.nx, rk_hld ov.ny oa.ny ob.ny, ov.rk, oa.rk, ob.rk]
  omega
theorem pc_op {X : List Int} {Y Y' : List Nat} {n k : Nat} (h : OpT X Y Y' n) (hk : k + 1 < n) : Op (pcT X Y n k) (pcT X Y' n k) :=
  op_hld (op_add (h.op k (by omega)) (q_op h hk (by omega)) (h.ok.fn k (by omega))) (h.op k (by omega)) (h.op (k + 1) hk)
theorem pe_op {X : List Int} {Y Y' : List Nat} {n k : Nat} (h : OpT X Y Y' n) (hk : k + 1 < n) : Op (peT X Y n k) (peT X Y' n k) :=
  op_hld (op_sub (h.op (k + 1) hk) (q_op h hk hk) (h.ok.fn (k + 1) hk)) (pc_op h hk) (h.op (k + 1) hk)
theorem qz_neg (z : Int) (n : Nat) : qz (-z) n = -qz z n := by
  have h0 : qd 0 n = 0 := by unfold qd; simp
  unfold qz
  rw [Int.natAbs_neg]
  rcases (by omega : z < 0 ∨ z = 0 ∨ 0 < z) with h | h | h
  · rw [if_neg (by omega), if_pos h]; omega
  · subst h; simp [h0]
  · rw [if_pos (by omega), if_neg (by omega)]
theorem op_over (z : Int) (n : Nat) : Op (overA z false false n) (overA (-z) false false n) :=
  ⟨F64_overA _ _ _ _, F64_overA _ _ _ _, nn_overA _ _, nn_overA _ _, by rw [rk_over, rk_over, qz_neg, rz_neg _ (by decide)]⟩
theorem bt_op {kind : Int} {X : List Int} {Y Y' : List Nat} (h : OpT X Y Y' X.length) {k : Nat} (hk : k + 1 < X.length) {i : Int} (h0 : 0 ≤ i) (h1 : i ≤ X.getD (k + 1) 0 - X.getD k 0) (hkd : kind = 2 ∨ kind = 3) :
    Op (btT kind X Y k i (X.getD (k + 1) 0 - X.getD k 0)) (btT kind X Y' k i (X.getD (k + 1) 0 - X.getD k 0)) := by
  have st := h.ok.step hk
  have oa := h.op k (by omega)
  have ob := h.op (k + 1) hk
  have fa := h.ok.fn k (by omega)
  have fb := h.ok.fn (k + 1) hk
  have fa' := h.ok'.fn k (by omega)
  have fb' := h.ok'.fn (k + 1) hk
  rcases hkd with e | e
  · subst e
    unfold btT
    rw [if_neg (by decide), if_pos rfl, if_neg (by decide), if_pos rfl]
    generalize X.getD (k + 1) 0 - X.getD k 0 = H at *
    obtain ⟨z1, z2, z3⟩ := zD_two (H - i) i _ _ (by omega) (by omega) fa fb
    obtain ⟨y1, y2, y3⟩ := zD_two (H - i) i _ _ (by omega) (by omega) fa' fb'
    unfold wsT
    rw [z1, z2, z3, y1, y2, y3, oa.sv, ob.sv]
    have e2 : ((H - i) * -SV (Y.getD k 0) + i * -SV (Y.getD (k + 1) 0)) * (U1 : Int) = -(((H - i) * SV (Y.getD k 0) + i * SV (Y.getD (k + 1) 0)) * (U1 : Int)) := by
      rw [Int.mul_neg, Int.mul_neg, ← Int.neg_add, Int.neg_mul]
    rw [e2]
    exact op_over _ _
  · subst e
    have oc := pc_op h hk
    have oe := pe_op h hk
    have fc := fin_pcT h.ok hk
    have fe := fin_peT h.ok hk
    have fc' := fin_pcT h.ok' hk
    have fe' := fin_peT h.ok' hk
    unfold btT
    rw [if_neg (by decide), if_neg (by decide), if_pos rfl, if_neg (by decide), if_neg (by decide), if_pos rfl]
    generalize X.getD (k + 1) 0 - X.getD k 0 = H at *
    obtain ⟨z1, z2, z3⟩ := zD_cw (h := H) (i := i) h0 h1 st.2 fa fc fe fb
    obtain ⟨y1, y2, y3⟩ := zD_cw (h := H) (i := i) h0 h1 st.2 fa' fc' fe' fb'
    unfold wsT
    rw [z1, z2, z3, y1, y2, y3, oa.sv, ob.sv, oc.sv, oe.sv]
    generalize (H - i) * (H - i) * (H - i) = w1
    generalize 3 * (H - i) * (H - i) * i = w2
    generalize 3 * (H - i) * i * i = w3
    generalize i * i * i = w4
    have e2 : ∀ A B C D : Int, (w1 * -A + w2 * -B + w3 * -C + w4 * -D) * (U1 : Int) = -((w1 * A + w2 * B + w3 * C + w4 * D) * (U1 : Int)) := fun A B C D => by
      rw [Int.mul_neg, Int.mul_neg, Int.mul_neg, Int.mul_neg, ← Int.neg_add, ← Int.neg_add, ← Int.neg_add, Int.neg_mul]
    rw [e2]
    exact op_over _ _
/-- The value at a place is turned. -/
theorem at_op {kind : Int} {X : List Int} {Y Y' : List Nat} {x : Int} (h : OpT X Y Y' X.length) (hkd : kind = 2 ∨ kind = 3) (c1 : chkT kind X Y = 0) (c2 : chkT kind X Y' = 0) :
    (atT kind X Y' x).2 = (atT kind X Y x).2 ∧ ((atT kind X Y x).2 = 0 → Op (atT kind X Y x).1 (atT kind X Y' x).1) := by
  unfold atT
  rw [if_pos c1, if_pos c2]
  by_cases h1 : x < X.getD 0 0 ∨ lastT X < x
  · rw [if_pos h1, if_pos h1]; exact ⟨rfl, fun e => by simp at e⟩
  · rw [if_neg h1, if_neg h1]
    have f := fnd_ok h.ok (x := x) (by omega)
    by_cases h2 : X.getD (fndT X x) 0 = x
    · rw [if_pos h2, if_pos h2]
      exact ⟨rfl, fun _ => h.op _ f.1⟩
    · rw [if_neg h2, if_neg h2]
      obtain ⟨i1, i2, i3⟩ := fnd_in h.ok (x := x) (by omega) (by omega) h2
      exact ⟨rfl, fun _ => bt_op h i1 i2 i3 hkd⟩
/-- The check, of a table with other numbers. -/
theorem chk_same {kind : Int} {X : List Int} {Y Y' : List Nat} (hkd : kind = 2 ∨ kind = 3) (hl : Y'.length = Y.length) (hf : ∀ i, i < X.length → fin (Y'.getD i 0) = true) (hw : ∀ i, F64 (Y.getD i 0)) (c : chkT kind X Y = 0) : chkT kind X Y' = 0 := by
  obtain ⟨ok, k1, k4, _⟩ := chk_ok c hw
  have hk : knB kind = true := by unfold knB; simp; omega
  have hln : lnB X Y' = true := by
    unfold lnB
    simp only [Bool.and_eq_true, decide_eq_true_eq]
    exact ⟨⟨ok.pos, ok.max⟩, by rw [hl, ok.ly]⟩
  refine chk_good hk hln fun i hi => ?_
  unfold ndA ndB
  have hp : prv X i < X.getD i 0 := by
    unfold prv
    by_cases h0 : i = 0
    · rw [if_pos h0]; have := ok.lo i hi; omega
    · rw [if_neg h0]
      have := ok.up (i - 1) (by omega)
      rw [show i - 1 + 1 = i by omega] at this
      exact this
  have h4 : (kind == 4) = false := by rw [beq_eq_false_iff_ne]; omega
  rw [hf i hi, h4, decide_eq_true hp, decide_eq_true (ok.hi i hi)]
  rfl

end Go.Proofs.Yteikihidblcljaa

/- Plain: a table's values turned in sign: what a place holds is turned. No program. -/
import Derived.Test.YteikihidblcljaaWgC
namespace Go.Proofs.Yteikihidblcljaa
set_option linter.unusedSimpArgs false
set_option linter.unusedVariables false

/-- y is x with the sign turned (noughts of any sign). -/
structure Op (x y : Nat) : Prop where
  fx : F64 x
  fy : F64 y
  nx : nn x = false
  ny : nn y = false
  rk : Go.Proofs.Yteikihidblcljaa.rk y = -Go.Proofs.Yteikihidblcljaa.rk x
theorem rk_abs (x : Nat) : (rk x).natAbs = mg x := by unfold rk; split <;> omega
theorem Op.mg {x y : Nat} (o : Op x y) : Go.Proofs.Yteikihidblcljaa.mg y = Go.Proofs.Yteikihidblcljaa.mg x := by
  have := rk_abs x
  have := rk_abs y
  have := o.rk
  omega
theorem Op.fin {x y : Nat} (o : Op x y) : Go.Proofs.Yteikihidblcljaa.fin y = Go.Proofs.Yteikihidblcljaa.fin x := by unfold Go.Proofs.Yteikihidblcljaa.fin; rw [o.mg]
theorem Op.inf {x y : Nat} (o : Op x y) : Go.Proofs.Yteikihidblcljaa.inf y = Go.Proofs.Yteikihidblcljaa.inf x := by unfold Go.Proofs.Yteikihidblcljaa.inf; rw [o.mg]
theorem Op.ng {x y : Nat} (o : Op x y) (h : Go.Proofs.Yteikihidblcljaa.mg x ≠ 0) : Go.Proofs.Yteikihidblcljaa.ng y = !Go.Proofs.Yteikihidblcljaa.ng x := by
  have h1 := o.rk
  have h2 := o.mg
  unfold Go.Proofs.Yteikihidblcljaa.rk at h1
  cases hx : Go.Proofs.Yteikihidblcljaa.ng x <;> cases hy : Go.Proofs.Yteikihidblcljaa.ng y <;> rw [hx, hy] at h1 <;> simp at h1 <;> first | rfl | omega
theorem Op.symm {x y : Nat} (o : Op x y) : Op y x := ⟨o.fy, o.fx, o.ny, o.nx, by rw [o.rk]; omega⟩
theorem Op.sv {x y : Nat} (o : Op x y) : SV y = -SV x := by
  by_cases h : Go.Proofs.Yteikihidblcljaa.mg x = 0
  · rw [SV_mg0' x h, SV_mg0' y (by rw [o.mg]; exact h)]; rfl
  · unfold SV
    rw [o.mg, o.ng h]
    cases Go.Proofs.Yteikihidblcljaa.ng x <;> simp
theorem op_rz {x y : Nat} {z : Int} (fx : F64 x) (fy : F64 y) (nx : nn x = false) (ny : nn y = false) (hx : rk x = rz (-1074) z) (hy : rk y = rz (-1074) (-z)) : Op x y :=
  ⟨fx, fy, nx, ny, by rw [hy, hx, rz_neg _ (by decide)]⟩
theorem op_add {u u' v v' : Nat} (o : Op u u') (p : Op v v') (fu : fin u = true) : Op (fadd u v) (fadd u' v') := by
  have fu' : fin u' = true := by rw [o.fin]; exact fu
  have n1 := nnAdd o.fx p.fx fu p.nx
  have n2 := nnAdd o.fy p.fy fu' p.ny
  rcases ways v with ⟨h, _, _⟩ | ⟨_, hi, _⟩ | ⟨_, _, fv⟩
  · rw [p.nx] at h; cases h
  · have hi' : inf v' = true := by rw [p.inf]; exact hi
    rw [fadd_fi u v o.fx p.fx fu hi, fadd_fi u' v' o.fy p.fy fu' hi']
    exact p
  · have fv' : fin v' = true := by rw [p.fin]; exact fv
    refine op_rz (F64_fadd _ _) (F64_fadd _ _) n1 n2 (rk_fadd u v o.fx p.fx fu fv).1 ?_
    rw [(rk_fadd u' v' o.fy p.fy fu' fv').1, o.sv, p.sv]
    congr 1
    omega
/-- A difference is a sum with the second turned. -/
theorem fsub_turn {v : Nat} (hv : F64 v) (hn : nn v = false) : ∃ y, Op v y ∧ ∀ u, fadd u y = fsub u v := by
  have hl : mg v ≤ 9218868437227405312 := mg_le_of hn
  have hy : F64 (if ng v then mg v else mg v + 9223372036854775808) := by constructor; split <;> omega
  have hm : mg (if ng v then mg v else mg v + 9223372036854775808) = mg v := by
    split
    · exact mg_small _ (by omega)
    · rw [mg_val (mg v + _)]; omega
  have hg : ng (if ng v then mg v else mg v + 9223372036854775808) = !ng v := by
    cases h : ng v
    · simp only [Bool.false_eq_true, if_false, Bool.not_false]
      unfold ng; simp
    · simp only [if_true, Bool.not_true]
      exact ng_small _ (by omega)
  have hnn : nn (if ng v then mg v else mg v + 9223372036854775808) = false := nn_of_mg (by rw [hm]; exact hl)
  refine ⟨_, ⟨hv, hy, hn, hnn, ?_⟩, fun u => ?_⟩
  · unfold rk
    rw [hm, hg]
    cases ng v <;> simp
  · have hr : dbl.read (if ng v then mg v else mg v + 9223372036854775808) = (dbl.read v).opposite := by
      rcases ways v with ⟨h, _, _⟩ | ⟨_, hi, _⟩ | ⟨_, _, fv⟩
      · rw [hn] at h; cases h
      · have hi' : inf (if ng v then mg v else mg v + 9223372036854775808) = true := by unfold inf at *; rw [hm]; exact hi
        rw [read_infb _ hy hi', read_infb v hv hi, hg]
        rfl
      · exact read_flip v hv fv
    unfold fadd fsub Ieee.Format.add Ieee.Format.sub
    rw [hr]
theorem op_sub {u u' v v' : Nat} (o : Op u u') (p : Op v v') (fu : fin u = true) : Op (fsub u v) (fsub u' v') := by
  obtain ⟨y, q, e⟩ := fsub_turn p.fx p.nx
  obtain ⟨y', q', e'⟩ := fsub_turn p.fy p.ny
  rw [← e, ← e']
  exact op_add o ⟨q.fy, q'.fy, q.ny, q'.ny, by rw [q'.rk, q.rk, p.rk]⟩ fu
theorem rk_sgw (u v r : Nat) (h : r ≤ 9218868437227405312) : rk (sgw u v + r) = if (ng u ^^ ng v) then -(r : Int) else r := by
  rw [← word_sgw]; exact (rk_word _ _ h).1
theorem F64_sgw (u v r : Nat) (h : r ≤ 9218868437227405312) : F64 (sgw u v + r) := ⟨by have := sgw_le u v; omega⟩
theorem op_sgw {u u' v v' r : Nat} (h : r ≤ 9218868437227405312) (hr : r ≠ 0 → (ng u' ^^ ng v') = !(ng u ^^ ng v)) : Op (sgw u v + r) (sgw u' v' + r) := by
  refine ⟨F64_sgw _ _ _ h, F64_sgw _ _ _ h, nn_sgw _ _ _ h, nn_sgw _ _ _ h, ?_⟩
  rw [rk_sgw _ _ _ h, rk_sgw _ _ _ h]
  by_cases h0 : r = 0
  · rw [h0]; split <;> split <;> rfl
  · rw [hr h0]; cases (ng u ^^ ng v) <;> simp
theorem overN_le (s : Bool) (a : Nat) (e : Int) (b : Nat) (f : Int) : mg (overN s a e b f) ≤ 9218868437227405312 := by
  unfold overN
  split
  · rw [mg_0]; omega
  · unfold nearM; split
    · rw [mg_0]; omega
    · rw [mg_madeN]; exact Nat.min_le_right _ _
theorem mnt_same {x y : Nat} (h : mg y = mg x) : mnt y = mnt x ∧ exq y = exq x ∧ exr y = exr x := by
  have a : mnt y = mnt x := by unfold mnt; rw [h]
  have b : exq y = exq x := by unfold exq; rw [h]
  exact ⟨a, b, by unfold exr; rw [a, b]⟩
/-- Divided by a number that is not 0. -/
theorem op_div {u u' v : Nat} (o : Op u u') (hv : F64 v) (fv : fin v = true) (hz : mg v ≠ 0) : Op (fdiv u v) (fdiv u' v) := by
  have hng : mg u ≠ 0 → (ng u' ^^ ng v) = !(ng u ^^ ng v) := fun h => by rw [o.ng h]; cases ng u <;> cases ng v <;> rfl
  rcases ways u with ⟨h, _, _⟩ | ⟨_, hi, _⟩ | ⟨_, _, fu⟩
  · rw [o.nx] at h; cases h
  · rw [fdiv_if u v o.fx hv hi fv, fdiv_if u' v o.fy hv (by rw [o.inf]; exact hi) fv]
    refine op_sgw (Nat.le_refl _) fun _ => hng fun e => ?_
    have := inf_mg hi
    unfold INF at this
    omega
  · obtain ⟨e1, e2, e3⟩ := mnt_same o.mg
    rw [fdiv_ff u v o.fx hv fu fv hz false, fdiv_ff u' v o.fy hv (by rw [o.fin]; exact fu) fv hz false, e1, e3]
    refine op_sgw (overN_le _ _ _ _ _) fun hr => hng fun e => hr ?_
    rw [(mnt_zero u).2 e]
    unfold overN
    rw [if_pos rfl, mg_0]
theorem op_mul {u u' v : Nat} (o : Op u u') (hv : F64 v) (fv : fin v = true) (hz : mg v ≠ 0) : Op (fmul u v) (fmul u' v) := by
  have hng : mg u ≠ 0 → (ng u' ^^ ng v) = !(ng u ^^ ng v) := fun h => by rw [o.ng h]; cases ng u <;> cases ng v <;> rfl
  rcases ways u with ⟨h, _, _⟩ | ⟨_, hi, _⟩ | ⟨_, _, fu⟩
  · rw [o.nx] at h; cases h
  · rw [fmul_if u v o.fx hv hi fv, fmul_if u' v o.fy hv (by rw [o.inf]; exact hi) fv, if_neg hz, if_neg hz]
    refine op_sgw (Nat.le_refl _) fun _ => hng fun e => ?_
    have := inf_mg hi
    unfold INF at this
    omega
  · have fu' : fin u' = true := by rw [o.fin]; exact fu
    refine ⟨F64_fmul _ _, F64_fmul _ _, (rk_fmul u v o.fx hv fu fv).2, (rk_fmul u' v o.fy hv fu' fv).2, ?_⟩
    rw [(rk_fmul u v o.fx hv fu fv).1, (rk_fmul u' v o.fy hv fu' fv).1, o.sv, Int.neg_mul, rz_neg _ (by decide)]

/-- y is x with the sign turned, a nought's, too. -/
structure Fl (x y : Nat) : Prop where
  fx : F64 x
  fy : F64 y
  nx : nn x = false
  mg : Go.Proofs.Yteikihidblcljaa.mg y = Go.Proofs.Yteikihidblcljaa.mg x
  ng : Go.Proofs.Yteikihidblcljaa.ng y = !Go.Proofs.Yteikihidblcljaa.ng x
theorem Fl.ny {x y : Nat} (f : Fl x y) : nn y = false := nn_of_mg (by rw [f.mg]; exact mg_le_of f.nx)
theorem Fl.op {x y : Nat} (f : Fl x y) : Op x y := ⟨f.fx, f.fy, f.nx, f.ny, by unfold rk; rw [f.mg, f.ng]; cases Go.Proofs.Yteikihidblcljaa.ng x <;> simp⟩
theorem Op.fl {x y : Nat} (o : Op x y) (h : Go.Proofs.Yteikihidblcljaa.mg x ≠ 0) : Fl x y := ⟨o.fx, o.fy, o.nx, o.mg, o.ng h⟩
theorem fl_sgw {u u' v v' r : Nat} (h : r ≤ 9218868437227405312) (hr : (ng u' ^^ ng v') = !(ng u ^^ ng v)) : Fl (sgw u v + r) (sgw u' v' + r) :=
  ⟨F64_sgw _ _ _ h, F64_sgw _ _ _ h, nn_sgw _ _ _ h, by rw [(mg_sgw _ _ _ h).1, (mg_sgw _ _ _ h).1], by rw [(mg_sgw _ _ _ h).2, (mg_sgw _ _ _ h).2, hr]⟩
theorem fl_den {c v v' : Nat} (f : Fl v v') (hc : F64 c) (fc : fin c = true) (hz : mg c ≠ 0) : Fl (fdiv c v) (fdiv c v') := by
  have hng : (ng c ^^ ng v') = !(ng c ^^ ng v) := by rw [f.ng]; cases ng c <;> cases ng v <;> rfl
  have o := f.op
  rcases ways v with ⟨h, _, _⟩ | ⟨_, hi, _⟩ | ⟨_, _, fv⟩
  · rw [f.nx] at h; cases h
  · rw [fdiv_fi c v hc f.fx fc hi, fdiv_fi c v' hc f.fy fc (by rw [o.inf]; exact hi)]
    exact fl_sgw (r := 0) (by omega) hng
  · have fv' : fin v' = true := by rw [o.fin]; exact fv
    by_cases h0 : mg v = 0
    · rw [fdiv_f0 c v hc f.fx fc fv h0, fdiv_f0 c v' hc f.fy fc fv' (by rw [f.mg]; exact h0), if_neg hz, if_neg hz]
      exact fl_sgw (Nat.le_refl _) hng
    · obtain ⟨e1, e2, e3⟩ := mnt_same f.mg
      rw [fdiv_ff c v hc f.fx fc fv h0 false, fdiv_ff c v' hc f.fy fc fv' (by rw [f.mg]; exact h0) false, e1, e3]
      exact fl_sgw (overN_le _ _ _ _ _) hng
theorem zero_way {x : Nat} (hx : F64 x) (h : mg x = 0) : x = if ng x then 9223372036854775808 else 0 := by
  have := hx.out
  unfold mg at h
  unfold ng
  by_cases hc : 9223372036854775808 ≤ x
  · rw [decide_eq_true hc, if_pos rfl]; omega
  · rw [decide_eq_false hc, if_neg (by decide)]; omega
theorem inf_way {x y : Nat} (hx : F64 x) (hy : F64 y) (h : inf x = true) (h' : inf y = true) (hs : ng x = ng y) : x = y := by
  rw [← word_inf x hx h, ← word_inf y hy h', hs]
theorem fl_add {p p' q q' : Nat} (f : Fl p p') (g : Fl q q') (hs : ng p = ng q) : Fl (fadd p q) (fadd p' q') := by
  have op := f.op
  have oq := g.op
  have hs' : ng p' = ng q' := by rw [f.ng, g.ng, hs]
  rcases ways p with ⟨h, _, _⟩ | ⟨_, hi, _⟩ | ⟨_, _, fp⟩
  · rw [f.nx] at h; cases h
  · have hi' : inf p' = true := by rw [op.inf]; exact hi
    rcases ways q with ⟨h, _, _⟩ | ⟨_, hj, _⟩ | ⟨_, _, fq⟩
    · rw [g.nx] at h; cases h
    · have hj' : inf q' = true := by rw [oq.inf]; exact hj
      rw [fadd_ii p q f.fx g.fx hi hj, fadd_ii p' q' f.fy g.fy hi' hj', if_pos (inf_way f.fx g.fx hi hj hs), if_pos (inf_way f.fy g.fy hi' hj' hs')]
      exact f
    · rw [fadd_if p q f.fx g.fx hi fq, fadd_if p' q' f.fy g.fy hi' (by rw [oq.fin]; exact fq)]
      exact f
  · have fp' : fin p' = true := by rw [op.fin]; exact fp
    rcases ways q with ⟨h, _, _⟩ | ⟨_, hj, _⟩ | ⟨_, _, fq⟩
    · rw [g.nx] at h; cases h
    · rw [fadd_fi p q f.fx g.fx fp hj, fadd_fi p' q' f.fy g.fy fp' (by rw [oq.inf]; exact hj)]
      exact g
    · have oo := op_add op oq fp
      by_cases hz : mg (fadd p q) = 0
      · -- both are noughts
        have h1 := (rk_fadd p q f.fx g.fx fp fq).1
        have h0 : rk (fadd p q) = 0 := by unfold rk; rw [hz]; split <;> rfl
        rw [h0] at h1
        have key : mg p = 0 ∧ mg q = 0 := by
          have n1 := @sv_ng p
          have n2 := @sv_ng q
          have r1 := rz_SV p fp
          have r2 := rz_SV q fq
          have a1 := rk_abs p
          have a2 := rk_abs q
          cases hg : ng q
          · have g1 := n1.2 (by rw [hs]; exact hg)
            have g2 := n2.2 hg
            have m1 : rz (-1074) (SV p) ≤ rz (-1074) (SV p + SV q) := rz_mono _ (by decide) (by omega)
            have m2 : rz (-1074) (SV q) ≤ rz (-1074) (SV p + SV q) := rz_mono _ (by decide) (by omega)
            have k1 : rk p = mg p := rk_of_pos (by rw [hs]; exact hg)
            have k2 : rk q = mg q := rk_of_pos hg
            omega
          · have g1 := n1.1 (by rw [hs]; exact hg)
            have g2 := n2.1 hg
            have m1 : rz (-1074) (SV p + SV q) ≤ rz (-1074) (SV p) := rz_mono _ (by decide) (by omega)
            have m2 : rz (-1074) (SV p + SV q) ≤ rz (-1074) (SV q) := rz_mono _ (by decide) (by omega)
            have k1 : rk p = -(mg p : Int) := rk_of_neg (by rw [hs]; exact hg)
            have k2 : rk q = -(mg q : Int) := rk_of_neg hg
            omega
        have e1 := zero_way f.fx key.1
        have e2 := zero_way g.fx key.2
        have e3 := zero_way f.fy (by rw [f.mg]; exact key.1)
        have e4 := zero_way g.fy (by rw [g.mg]; exact key.2)
        rw [f.ng] at e3
        rw [g.ng] at e4
        rw [hs] at e1 e3
        have z0 : fadd 0 0 = 0 := by decide +kernel
        have z1 : fadd 9223372036854775808 9223372036854775808 = 9223372036854775808 := by decide +kernel
        have l0 : F64 0 := ⟨by decide⟩
        have l1 : F64 9223372036854775808 := ⟨by decide⟩
        cases hg : ng q
        · rw [hg] at e1 e2 e3 e4
          simp only [Bool.false_eq_true, if_false, Bool.not_false, if_true] at e1 e2 e3 e4
          rw [e1, e2, e3, e4, z0, z1]
          exact ⟨l0, l1, by decide +kernel, by decide +kernel, by decide +kernel⟩
        · rw [hg] at e1 e2 e3 e4
          simp only [Bool.false_eq_true, if_false, Bool.not_true, if_true] at e1 e2 e3 e4
          rw [e1, e2, e3, e4, z0, z1]
          exact ⟨l1, l0, by decide +kernel, by decide +kernel, by decide +kernel⟩
      · exact oo.fl hz

end Go.Proofs.Yteikihidblcljaa

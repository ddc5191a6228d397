/- The walk of LifeSteps. -/
import Derived.Test.YteikihidblcljaaQuC
import Derived.Test.YteikihidblcljaaCiC
namespace Go.Proofs.Yteikihidblcljaa
open Go.RowKit
set_option linter.unusedSimpArgs false
set_option linter.unusedVariables false

theorem and_1023 (x : Int) : 0 ≤ bits .and .i64 x 1023 ∧ bits .and .i64 x 1023 ≤ 1023 := by
  have h127 : (BitVec.ofInt 64 1023).toNat = 2 ^ 10 - 1 := by decide
  have key : (BitVec.ofInt 64 x &&& BitVec.ofInt 64 1023).toNat = (BitVec.ofInt 64 x).toNat % 2 ^ 10 := by
    rw [BitVec.toNat_and, h127, Nat.and_two_pow_sub_one_eq_mod]
  have e : bits .and .i64 x 1023 = IntKind.i64.wrap ((BitVec.ofInt 64 x &&& BitVec.ofInt 64 1023).toNat : Nat) := rfl
  rw [e, key, IntKind.wrap_i64]
  have := Nat.mod_lt (BitVec.ofInt 64 x).toNat (show 0 < 2 ^ 10 by decide)
  omega
/-- What is there while it goes by steps. -/
structure StpS (w wr : World) (L : List Fw) (cur day at_ en : Int) (H1 H2 b1 ba1 : Nat) (a1 : Option Addr) (c1 b2 ba2 : Nat) (a2 : Option Addr) (c2 : Nat) (P : List Fw) (ap : Option Addr) (cp : Nat) : Prop where
  la : Led wr w.heap.size b1 (stayF L at_) (paidZ L at_) cur at_ ba1 a1 c1
  lb : Led wr H1 b2 L 0 cur day ba2 a2 c2
  ia : LIn w.heap.size H1 b1 ba1 a1
  ib : LIn H1 H2 b2 ba2 a2
  ow : wr.ownsRow H2 74 3 (.slice ap P.length cp) P.length (flV P)
  pl : P.length = (paidF L at_).length
  pz : zS (P.map (·.x)) = paidZ L at_
  pk : LOk P
  lk : LOk L
  l60 : L.length ≤ 60
  bl : Below w.heap.size w wr
  hz : H2 ≤ wr.heap.size
  h12 : H1 ≤ H2
  hw1 : w.heap.size ≤ H1
  da : day ≤ at_
  a0 : 0 ≤ day
  a9 : at_ ≤ 109572
  ae : at_ = day ∨ at_ ≤ en
theorem LOk.append {P K : List Fw} (h : LOk P) (k : LOk K) (hl : (P ++ K).length ≤ 4096) : LOk (P ++ K) := by
  have key : ∀ i, (P ++ K).getD i fw0 = if i < P.length then P.getD i fw0 else K.getD (i - P.length) fw0 := fun i => by
    simp only [List.getD_eq_getElem?_getD]
    split
    · rw [List.getElem?_append_left (by assumption)]
    · rw [List.getElem?_append_right (by omega)]
  refine ⟨⟨fun i => ?_, fun i => ?_, hl⟩, fun i hi => ?_⟩
  · rw [key]; split; exact h.ok.wf _; exact k.ok.wf _
  · rw [key]; split; exact h.ok.rg _; exact k.ok.rg _
  · rw [key]; split
    · exact h.fn _ (by assumption)
    · exact k.fn _ (by rw [List.length_append] at hi; omega)
theorem LOk.nil : LOk [] := ⟨⟨fun k => ⟨by simp [fw0]⟩, fun k => by simp [fw0], by simp⟩, fun k hk => by simp at hk⟩
theorem StpS.p60 {w wr : World} {L : List Fw} {cur day at_ en : Int} {H1 H2 b1 ba1 : Nat} {a1 : Option Addr} {c1 b2 ba2 : Nat} {a2 : Option Addr} {c2 : Nat} {P : List Fw} {ap : Option Addr} {cp : Nat} (h : StpS w wr L cur day at_ en H1 H2 b1 ba1 a1 c1 b2 ba2 a2 c2 P ap cp) : P.length ≤ 60 := by
  have h1 := h.pl
  have h2 : (paidF L at_).length ≤ L.length := List.length_filter_le _ _
  have := h.l60
  omega
theorem StpS.below {w wr wr' : World} {L : List Fw} {cur day at_ en : Int} {H1 H2 b1 ba1 : Nat} {a1 : Option Addr} {c1 b2 ba2 : Nat} {a2 : Option Addr} {c2 : Nat} {P : List Fw} {ap : Option Addr} {cp : Nat} (h : StpS w wr L cur day at_ en H1 H2 b1 ba1 a1 c1 b2 ba2 a2 c2 P ap cp) (hb : Below wr.heap.size wr wr') : StpS w wr' L cur day at_ en H1 H2 b1 ba1 a1 c1 b2 ba2 a2 c2 P ap cp :=
  { h with la := h.la.below hb, lb := h.lb.below hb, ow := ownsRow_below h.ow hb, bl := h.bl.trans (hb.mono h.bl.size), hz := Nat.le_trans h.hz hb.size }
/-- Behind Pass of the first ledger. -/
structure StpM (w wr : World) (L : List Fw) (cur day at_ n en : Int) (H1 H2 b1 ba1 : Nat) (a1 : Option Addr) (c1 b2 ba2 : Nat) (a2 : Option Addr) (c2 : Nat) (P : List Fw) (ap : Option Addr) (cp : Nat) (ak : Option Addr) : Prop where
  la : Led wr w.heap.size b1 (stayF L n) (paidZ L n) cur n ba1 a1 c1
  lb : Led wr H1 b2 L 0 cur day ba2 a2 c2
  ow : wr.ownsRow H2 74 3 (.slice ap P.length cp) P.length (flV P)
  fk : Flws wr ak (paidF (stayF L at_) n)
  fg : (paidF (stayF L at_) n).length = 0 ∨ ∃ g, ak = some ⟨g, 0, none⟩ ∧ H2 ≤ g
  bl : Below w.heap.size w wr
  hz : H2 ≤ wr.heap.size
theorem StpS.pass {w wr wr' : World} {L : List Fw} {cur day at_ n en : Int} {H1 H2 b1 ba1 : Nat} {a1 : Option Addr} {c1 b2 ba2 : Nat} {a2 : Option Addr} {c2 : Nat} {P : List Fw} {ap ak : Option Addr} {cp : Nat} (h : StpS w wr L cur day at_ en H1 H2 b1 ba1 a1 c1 b2 ba2 a2 c2 P ap cp) (hn : at_ ≤ n)
    (hL : Led wr' w.heap.size b1 (stayF (stayF L at_) n) (paidZ L at_ + paidZ (stayF L at_) n) cur n ba1 a1 c1) (hf : Frm (fun k => k = b1 ∨ k = ba1 ∨ (Value.slice a1 (stayF L at_).length c1).ownBlock = some k) wr wr') (hk : FrRet (paidF (stayF L at_) n) wr ak wr') :
    StpM w wr' L cur day at_ n en H1 H2 b1 ba1 a1 c1 b2 ba2 a2 c2 P ap cp ak := by
  have hS := h.ia.S (n := (stayF L at_).length) (c := c1)
  refine ⟨?_, h.lb.frm hf fun k s => ?_, ownsRow_frm h.ow hf fun k s e => ?_, hk.1, hk.2.imp id (fun ⟨g, cap, e, h1, _⟩ => ⟨g, e, Nat.le_trans h.hz h1⟩), hf.to_below h.bl (fun k s => (hS k s).1) h.bl.size, Nat.le_trans h.hz hf.bel.size⟩
  · rw [← stay_stay hn, (paid_split hn).1]; exact hL
  · have := (hS k s).2
    exact h.ib.not (Or.inl this)
  · have h1 := (hS k s).2
    have h2 := (h.ow.lt k e).1
    have := h.h12
    omega
theorem StpM.next {w wr wr' : World} {L : List Fw} {cur day at_ n en : Int} {H1 H2 b1 ba1 : Nat} {a1 : Option Addr} {c1 b2 ba2 : Nat} {a2 : Option Addr} {c2 : Nat} {P : List Fw} {ap ak ap' : Option Addr} {cp cp' : Nat} {wq : World} (h : StpS w wq L cur day at_ en H1 H2 b1 ba1 a1 c1 b2 ba2 a2 c2 P ap cp) (hm : StpM w wr L cur day at_ n en H1 H2 b1 ba1 a1 c1 b2 ba2 a2 c2 P ap cp ak) (hn : at_ ≤ n) (h9 : n ≤ 109572) (he : n ≤ en)
    (ho : wr'.ownsRow H2 74 3 (.slice ap' (P ++ paidF (stayF L at_) n).length cp') (P ++ paidF (stayF L at_) n).length (flV (P ++ paidF (stayF L at_) n))) (hb : Below H2 wr wr') :
    StpS w wr' L cur day n en H1 H2 b1 ba1 a1 c1 b2 ba2 a2 c2 (P ++ paidF (stayF L at_) n) ap' cp' := by
  have hp := h.p60
  have hl : (paidF (stayF L at_) n).length ≤ 60 := Nat.le_trans (Nat.le_trans (List.length_filter_le _ _) (List.length_filter_le _ _)) h.l60
  have F2 : Frm (fun k => H2 ≤ k) wr wr' := ⟨hb.mono (Nat.zero_le _), fun k _ s => hb.block k (by omega)⟩
  refine ⟨hm.la.frm F2 fun k s => h.ia.not (Or.inr (Nat.le_trans h.h12 s)), hm.lb.frm F2 fun k s => h.ib.not (Or.inr s), h.ia, h.ib, ho, ?_, ?_, h.pk.append ((h.lk.filter _).filter _) (by rw [List.length_append]; omega), h.lk, h.l60, hm.bl.trans (hb.mono (Nat.le_trans h.hw1 h.h12)), Nat.le_trans hm.hz hb.size, h.h12, h.hw1, by have := h.da; omega, h.a0, h9, Or.inr he⟩
  · have e := (paid_split (L := L) hn).2
    rw [List.length_append, h.pl]; omega
  · have e := (paid_split (L := L) hn).1
    rw [List.map_append, zS_appL, h.pz, e]; rfl

theorem Flws.frm {S : Nat → Prop} {w w' : World} {a : Option Addr} {K : List Fw} (h : Flws w a K) (hf : Frm S w w') (hg : K.length = 0 ∨ ∃ g, a = some ⟨g, 0, none⟩ ∧ ¬ S g) : Flws w' a K := by
  refine ⟨fun k hk => ?_, h.wf, h.rg, h.len⟩
  rcases hg with h0 | ⟨g, rfl, hg⟩
  · omega
  obtain ⟨b, o, e, c1, c2, c3⟩ := h.cell k hk
  cases e
  have hb := hf.block g (World.block_lt_of_cell? _ _ c1) hg
  exact ⟨g, 0, rfl, (World.cell?_of_block hb).trans c1, (World.cell?_of_block hb).trans c2, (World.cell?_of_block hb).trans c3⟩
/-- What is there at the end. -/
structure EndS (w wr : World) (L : List Fw) (cur en : Int) (H1 H2 b1 ba1 : Nat) (a1 : Option Addr) (c1 b2 ba2 : Nat) (a2 : Option Addr) (c2 : Nat) (P : List Fw) (ap : Option Addr) (cp : Nat) : Prop where
  la : Led wr w.heap.size b1 (stayF L en) (paidZ L en) cur en ba1 a1 c1
  lb : Led wr H1 b2 (stayF L en) (paidZ L en) cur en ba2 a2 c2
  ia : LIn w.heap.size H1 b1 ba1 a1
  ib : LIn H1 H2 b2 ba2 a2
  ow : wr.ownsRow H2 74 3 (.slice ap P.length cp) P.length (flV P)
  pl : P.length = (paidF L en).length
  pz : zS (P.map (·.x)) = paidZ L en
  pk : LOk P
  lk : LOk L
  l60 : L.length ≤ 60
  bl : Below w.heap.size w wr
  hz : H2 ≤ wr.heap.size
  h12 : H1 ≤ H2
  hw1 : w.heap.size ≤ H1
theorem EndS.only {w wr wr' : World} {L : List Fw} {cur en : Int} {H1 H2 b1 ba1 b3 : Nat} {a1 : Option Addr} {c1 b2 ba2 : Nat} {a2 : Option Addr} {c2 : Nat} {P : List Fw} {ap : Option Addr} {cp : Nat} (h : EndS w wr L cur en H1 H2 b1 ba1 a1 c1 b2 ba2 a2 c2 P ap cp) (hf : Frm (fun k => k = b3) wr wr') (hb : H2 ≤ b3) (ho : (Value.slice ap P.length cp).ownBlock ≠ some b3) : EndS w wr' L cur en H1 H2 b1 ba1 a1 c1 b2 ba2 a2 c2 P ap cp :=
  { h with la := h.la.frm hf (fun k s => by subst s; exact h.ia.not (Or.inr (Nat.le_trans h.h12 hb))), lb := h.lb.frm hf (fun k s => by subst s; exact h.ib.not (Or.inr hb)), ow := ownsRow_frm h.ow hf (fun k s e => by subst s; exact ho e), bl := hf.to_below h.bl (fun k s => by subst s; have := h.h12; have := h.hw1; omega) h.bl.size, hz := Nat.le_trans h.hz hf.bel.size }
theorem EndS.below {w wr wr' : World} {L : List Fw} {cur en : Int} {H1 H2 b1 ba1 : Nat} {a1 : Option Addr} {c1 b2 ba2 : Nat} {a2 : Option Addr} {c2 : Nat} {P : List Fw} {ap : Option Addr} {cp : Nat} (h : EndS w wr L cur en H1 H2 b1 ba1 a1 c1 b2 ba2 a2 c2 P ap cp) (hb : Below wr.heap.size wr wr') : EndS w wr' L cur en H1 H2 b1 ba1 a1 c1 b2 ba2 a2 c2 P ap cp :=
  { h with la := h.la.below hb, lb := h.lb.below hb, ow := ownsRow_below h.ow hb, bl := h.bl.trans (hb.mono h.bl.size), hz := Nat.le_trans h.hz hb.size }
/-- The second ledger's days have passed, too. -/
theorem StpM.both {w wr wr' wq : World} {L : List Fw} {cur day at_ en : Int} {H1 H2 b1 ba1 : Nat} {a1 : Option Addr} {c1 b2 ba2 : Nat} {a2 : Option Addr} {c2 : Nat} {P : List Fw} {ap ak : Option Addr} {cp : Nat} (h : StpS w wq L cur day at_ en H1 H2 b1 ba1 a1 c1 b2 ba2 a2 c2 P ap cp) (hm : StpM w wr L cur day at_ en en H1 H2 b1 ba1 a1 c1 b2 ba2 a2 c2 P ap cp ak)
    (hL : Led wr' H1 b2 (stayF L en) (0 + paidZ L en) cur en ba2 a2 c2) (hf : Frm (fun k => k = b2 ∨ k = ba2 ∨ (Value.slice a2 L.length c2).ownBlock = some k) wr wr') :
    Led wr' w.heap.size b1 (stayF L en) (paidZ L en) cur en ba1 a1 c1 ∧ wr'.ownsRow H2 74 3 (.slice ap P.length cp) P.length (flV P) ∧ Flws wr' ak (paidF (stayF L at_) en) ∧ Below w.heap.size w wr' ∧ H2 ≤ wr'.heap.size := by
  have hS := h.ib.S (n := L.length) (c := c2)
  refine ⟨hm.la.frm hf fun k s => h.ia.not (Or.inr (hS k s).1), ownsRow_frm hm.ow hf fun k s e => ?_, hm.fk.frm hf (hm.fg.imp id fun ⟨g, e, hg⟩ => ⟨g, e, fun s => ?_⟩), hf.to_below hm.bl (fun k s => Nat.le_trans h.hw1 (hS k s).1) hm.bl.size, Nat.le_trans hm.hz hf.bel.size⟩
  · have h1 := (hS k s).2
    have h2 := (hm.ow.lt k e).1
    omega
  · have h1 := (hS g s).2
    omega
theorem StpM.fin {w wr wr' wq : World} {L : List Fw} {cur day at_ en : Int} {H1 H2 b1 ba1 : Nat} {a1 : Option Addr} {c1 b2 ba2 : Nat} {a2 : Option Addr} {c2 : Nat} {P : List Fw} {ap ap' : Option Addr} {cp cp' : Nat} (h : StpS w wq L cur day at_ en H1 H2 b1 ba1 a1 c1 b2 ba2 a2 c2 P ap cp) (hp : at_ ≤ en)
    (la : Led wr w.heap.size b1 (stayF L en) (paidZ L en) cur en ba1 a1 c1) (lb : Led wr H1 b2 (stayF L en) (0 + paidZ L en) cur en ba2 a2 c2) (bl : Below w.heap.size w wr) (hz : H2 ≤ wr.heap.size)
    (ho : wr'.ownsRow H2 74 3 (.slice ap' (P ++ paidF (stayF L at_) en).length cp') (P ++ paidF (stayF L at_) en).length (flV (P ++ paidF (stayF L at_) en))) (hb : Below H2 wr wr') :
    EndS w wr' L cur en H1 H2 b1 ba1 a1 c1 b2 ba2 a2 c2 (P ++ paidF (stayF L at_) en) ap' cp' := by
  have hpp := h.p60
  have hl : (paidF (stayF L at_) en).length ≤ 60 := Nat.le_trans (Nat.le_trans (List.length_filter_le _ _) (List.length_filter_le _ _)) h.l60
  have F2 : Frm (fun k => H2 ≤ k) wr wr' := ⟨hb.mono (Nat.zero_le _), fun k _ s => hb.block k (by omega)⟩
  rw [Int.zero_add] at lb
  refine ⟨la.frm F2 fun k s => h.ia.not (Or.inr (Nat.le_trans h.h12 s)), lb.frm F2 fun k s => h.ib.not (Or.inr s), h.ia, h.ib, ho, ?_, ?_, h.pk.append ((h.lk.filter _).filter _) (by rw [List.length_append]; omega), h.lk, h.l60, bl.trans (hb.mono (Nat.le_trans h.hw1 h.h12)), Nat.le_trans hz hb.size, h.h12, h.hw1⟩
  · have e := (paid_split (L := L) hp).2
    rw [List.length_append, h.pl]; omega
  · have e := (paid_split (L := L) hp).1
    rw [List.map_append, zS_appL, h.pz, e]; rfl
theorem EndS.flws {w wr : World} {L : List Fw} {cur en : Int} {H1 H2 b1 ba1 : Nat} {a1 : Option Addr} {c1 b2 ba2 : Nat} {a2 : Option Addr} {c2 : Nat} {P : List Fw} {ap : Option Addr} {cp : Nat} (h : EndS w wr L cur en H1 H2 b1 ba1 a1 c1 b2 ba2 a2 c2 P ap cp) : Flws wr ap P := ownsRow_flws h.ow rfl h.pk.ok.wf h.pk.ok.rg (Nat.le_trans h.pk.ok.len (by decide))

set_option maxHeartbeats 25600000 in
set_option maxRecDepth 100000 in
theorem lifeSteps_main (ad : Option Addr) (l : List Fw) (c : Nat) (cur day : Int) (ao : Option Addr) (St : List Int) (cs : Nat) (en : Int) (w : World) (hl : Flws w ad l) (hs : Ins w ao St) (h60 : l.length ≤ 60) (hz : lnE l cur day = 0) (hen : -9223372036854775808 ≤ en ∧ en ≤ 9223372036854775807) :
    Calls Try.prog 5 #[.slice ad l.length c, .int .i64 cur, .int .i64 day, .slice ao St.length cs, .int .i64 en] w fun e w' => e = .returned (.bool true) ∧ Below w.heap.size w w' := by
  obtain ⟨z1, z2, z3, z4, z5⟩ := lnE_ok hz
  rw [isDy_iff] at z4
  have HLk : Hd (LOk (mineF l cur)) := ⟨lnE_LOk hl hz⟩
  have HGe := Hd.mk (stay_all (mine_ge z5))
  have HL60 : Hd ((mineF l cur).length ≤ 60) := ⟨Nat.le_trans (mineF_len l cur) h60⟩
  have HNw := Hd.mk fun w1 (h : Flws w1 ad l) => lifeNew_any ad l c cur day w1 h
  have HP := Hd.mk hl
  have HSt := Hd.mk hs
  have HZ := Hd.mk hz
  have HDy := Hd.mk z4
  have sl := hs.len
  unfold LNewRet at HNw
  rw [hz] at HNw
  obtain ⟨N, hN⟩ : ∃ N, l.length = N := ⟨_, rfl⟩
  have HN := Hd.mk hN
  rw [hN] at h60 HNw ⊢
  obtain ⟨M, hM⟩ : ∃ M, St.length = M := ⟨_, rfl⟩
  have HM := Hd.mk hM
  rw [hM] at sl ⊢
  have d60 : decide ((N : Int) > 60) = false := by simp; omega
  clear hl hs hz z1 z2 z3 z4 z5 hN hM h60
  go_enter Try.func5, Try.ntmps5
  go_wp2_with fail
  refine (HNw.out _ HP.out).mono ?_
  rintro e w1 ⟨⟨_, b1, ba1, a1, c1, rfl, hL1⟩ | ⟨h, _⟩, hb1⟩
  rotate_left
  · exact absurd rfl h
  have K1 := Hd.mk hb1
  have A1 := Hd.mk hL1
  have P1 := Hd.mk (HP.out.below hb1)
  clear hb1 hL1
  go_wp2_with fail
  refine (HNw.out _ P1.out).mono ?_
  rintro e w2 ⟨⟨_, b2, ba2, a2, c2, rfl, hL2⟩ | ⟨h, _⟩, hb2⟩
  rotate_left
  · exact absurd rfl h
  have S0 : Hd (StpS w w2 (mineF l cur) cur day day en w1.heap.size w2.heap.size b1 ba1 a1 c1 b2 ba2 a2 c2 [] none 0) := ⟨by
    have e1 : paidZ (mineF l cur) day = 0 := by unfold paidZ; rw [HGe.out.2]; rfl
    exact { la := by rw [HGe.out.1, e1]; exact A1.out.below hb2, lb := hL2, ia := A1.out.lin, ib := hL2.lin, ow := by simpa [flV] using World.ownsRow_nil _ _ _ _, pl := by rw [HGe.out.2], pz := by rw [e1]; rfl, pk := LOk.nil, lk := HLk.out, l60 := HL60.out, bl := K1.out.trans (hb2.mono K1.out.size), hz := Nat.le_refl _, h12 := hb2.size, hw1 := K1.out.size, da := Int.le_refl _, a0 := HDy.out.1, a9 := HDy.out.2, ae := Or.inl rfl }⟩
  have HPw : Hd (∀ wr, Below w.heap.size w wr → Flws wr ad l) := ⟨fun wr h => HP.out.below h⟩
  have HSw : Hd (∀ wr, Below w.heap.size w wr → Ins wr ao St) := ⟨fun wr h => HSt.out.belowK h⟩
  clear hb2 hL2 A1 K1 P1 HNw HP HSt HGe
  have hd0 := HDy.out.1
  have hd9 := HDy.out.2
  generalize hLL : mineF l cur = L at *
  have HLL := Hd.mk hLL
  clear hLL
  go_wp2_with fail
  generalize w1.heap.size = H1 at *
  generalize w2.heap.size = H2 at *
  go_loopw [15, 16, 17] (fun pv av iv wr => ∃ (i : Nat) (at_ : Int) (P : List Fw) (ap : Option Addr) (cp : Nat), i ≤ 20 ∧ i ≤ M ∧ iv = .int .i64 i ∧ av = .int .i64 at_ ∧ pv = .slice ap P.length cp ∧ Hd (StpS w wr L cur day at_ en H1 H2 b1 ba1 a1 c1 b2 ba2 a2 c2 P ap cp)) (fun _ _ iv _ => 20 - (intOf iv).toNat)
  case atStart => exact ⟨0, day, [], none, 0, by omega, by omega, rfl, rfl, rfl, S0⟩
  case round =>
    clear S0 w1 w2
    obtain ⟨i, at_, P, ap, cp, hi20, hiM, rfl, rfl, rfl, SS⟩ := hrel
    have ha0 : 0 ≤ at_ := by have := SS.out.da; have := SS.out.a0; omega
    have ha9 := SS.out.a9
    by_cases hlM : i < M
    rotate_left
    · have dM : decide ((i : Int) < M) = false := by simp; omega
      have dM' : ¬ (i : Int) < M := by omega
      have dM2 : decide (i < M) = false := by simpa using hlM
      clear hlM
      have HI := Hd.mk fun (w' : World) h => lifePass_any en w' h ((SS.out.lk.filter _).ok) ((SS.out.lk.filter _).fn) (L := stayF L at_) (base := w.heap.size) (b := b1) (z := paidZ L at_) (cur := cur) (day := at_) (ba := ba1) (a := a1) (c := c1)
      have HJ := Hd.mk fun (w' : World) h => lifePass_any en w' h SS.out.lk.ok SS.out.lk.fn (L := L) (base := H1) (b := b2) (z := 0) (cur := cur) (day := day) (ba := ba2) (a := a2) (c := c2)
      have AE := Hd.mk SS.out.ae
      have DA := Hd.mk SS.out.da
      go_wp2_with fail
      refine (HI.out _ SS.out.la).mono ?_
      rintro e w3 (⟨hd, rfl, rfl⟩ | ⟨hd, hp, rfl, rfl⟩ | ⟨hd, hp, ⟨ak, rfl, hfr⟩, hL, hfm⟩)
      · have HD := Hd.mk hd
        clear hd
        go_wp2_with fail
        refine (HJ.out _ SS.out.lb).mono ?_
        rintro e w4 (⟨_, rfl, rfl⟩ | ⟨h, _⟩ | ⟨h, _⟩)
        rotate_left
        · rw [HD.out] at h; cases h
        · rw [HD.out] at h; cases h
        go_wp2_with fail
        refine (awake24_any _).mono ?_; rintro e w5 ⟨rfl, hb⟩
        have C5 := Hd.mk (SS.out.bl.trans (hb.mono SS.out.bl.size))
        clear hb
        go_wp2_with fail
        go_ret
        exact ⟨rfl, C5.out⟩
      · have HD := Hd.mk hd
        have HPp := Hd.mk hp
        clear hd hp
        go_wp2_with fail
        refine (HJ.out _ SS.out.lb).mono ?_
        rintro e w4 (⟨h, _⟩ | ⟨_, _, rfl, rfl⟩ | ⟨_, h, _⟩)
        · rw [HD.out] at h; cases h
        rotate_left
        · exfalso; have := AE.out; have := DA.out; have := HPp.out; omega
        go_wp2_with fail
        refine (awake24_any _).mono ?_; rintro e w5 ⟨rfl, hb⟩
        have C5 := Hd.mk (SS.out.bl.trans (hb.mono SS.out.bl.size))
        clear hb
        go_wp2_with fail
        go_ret
        exact ⟨rfl, C5.out⟩
      have MM := Hd.mk (SS.out.pass hp hL hfm hfr)
      have HD := Hd.mk hd
      have HPp := Hd.mk hp
      clear hd hp hL hfm hfr HI
      go_wp2_with fail
      refine (HJ.out _ MM.out.lb).mono ?_
      rintro e w4 (⟨h, _⟩ | ⟨_, h, _⟩ | ⟨_, _, ⟨am, rfl, _⟩, hL2, hfm2⟩)
      · rw [HD.out] at h; cases h
      · exfalso; have := DA.out; have := HPp.out; omega
      obtain ⟨la4, ow4, fk4, bl4, hz4⟩ := StpM.both SS.out MM.out hL2 hfm2
      have LA := Hd.mk la4
      have LB := Hd.mk hL2
      have OW := Hd.mk ow4
      have FK := Hd.mk fk4
      have BL := Hd.mk bl4
      have HZ4 := Hd.mk hz4
      have h100 : P.length + (paidF (stayF L at_) en).length ≤ 100000 := by
        have h1 := SS.out.p60
        have h2 : (paidF (stayF L at_) en).length ≤ L.length := Nat.le_trans (List.length_filter_le _ _) (List.length_filter_le _ _)
        have := SS.out.l60
        omega
      have H100 := Hd.mk h100
      clear la4 ow4 fk4 bl4 hz4 hL2 hfm2 HJ MM h100
      go_wp2_with (at_builtin; go_must (refine wpList_app_flows rfl (.tmp 179) (.tmp 180) rfl H2 (.slice ap P.length cp) P rfl OW.out ak (paidF (stayF L at_) en) rfl FK.out H100.out HZ4.out ?_))
      intro P2 a5 c5 w5 hP2 ho5 hb5
      have ES := StpM.fin SS.out HPp.out LA.out LB.out BL.out HZ4.out (by rw [← hP2.out]; exact ho5) hb5
      rw [← hP2.out] at ES
      have E5 := Hd.mk ES
      clear ES ho5 hb5 hP2 LA LB OW FK BL HZ4 H100 SS AE DA
      go_wp2_with fail
      refine (new_any _).mono ?_; rintro e w6 ⟨b3, rfl, hb3, hacc, hb⟩
      have E6 := Hd.mk (E5.out.below hb)
      have B3 : Hd (H2 ≤ b3 ∧ (Value.slice a5 P2.length c5).ownBlock ≠ some b3) := ⟨⟨Nat.le_trans E5.out.hz hb3, fun e => by have := (E5.out.ow.lt b3 e).2; omega⟩⟩
      have A6 : Hd (AccIs w6 b3 (zS ((P2.take 0).map (·.x))) false false) := ⟨hacc⟩
      have F6 : Hd (Frm (fun k => k = b3) w6 w6) := ⟨Frm.refl _ _⟩
      clear hb hb3 hacc E5
      have hP60 : P2.length ≤ 60 := by
        have h1 := E6.out.pl
        have h2 : (paidF L en).length ≤ L.length := List.length_filter_le _ _
        have := E6.out.l60
        omega
      obtain ⟨R2, hR2⟩ : ∃ R2, P2.length = R2 := ⟨_, rfl⟩
      have HR2 := Hd.mk hR2
      rw [hR2] at hP60 ⊢
      clear hR2
      go_wp2_with fail
      go_loopw [28] (fun iv wr => ∃ j : Nat, j ≤ R2 ∧ iv = .int .i64 j ∧ Hd (Frm (fun k => k = b3) w6 wr) ∧ Hd (AccIs wr b3 (zS ((P2.take j).map (·.x))) false false)) (fun iv _ => R2 - (intOf iv).toNat)
      case atStart => exact ⟨0, Nat.zero_le _, rfl, F6, A6⟩
      case round =>
        clear F6 A6
        obtain ⟨j, hj, rfl, F7, A7⟩ := hrel
        by_cases hjl : j < R2
        · have hj' : (j : Int) < R2 := by omega
          have j0 : (0 : Int) ≤ j := by omega
          have E7 := E6.out.only F7.out B3.out.1 B3.out.2
          obtain ⟨bb, oo, rfl, v1, v2, v3⟩ := E7.flws.cell j (by rw [HR2.out]; exact hjl)
          have hwf := E7.pk.ok.wf j
          have hfn := E7.pk.fn j (by rw [HR2.out]; exact hjl)
          have hup := flagB_fin _ hfn
          have HTk : Hd (zS ((P2.take (j + 1)).map (·.x)) = zS ((P2.take j).map (·.x)) + aZ (P2.getD j fw0).x) := ⟨by
            rw [take_snocF P2 j (by rw [HR2.out]; exact hjl), List.map_append]; exact zS_snoc _ _⟩
          have HAd := Hd.mk fun (w' : World) h => accAdd_any b3 (zS ((P2.take j).map (·.x))) false false (P2.getD j fw0).x w' h hwf
          rw [hup.1, hup.2] at HAd
          clear E7 hup hfn hwf hjl v1 v3
          generalize (P2.getD j fw0).x = fx at *
          go_wp2_with fail
          refine (HAd.out _ A7.out).mono ?_; rintro e w8 ⟨rfl, ha, ho⟩
          have A8 : Hd (AccIs w8 b3 (zS ((P2.take (j + 1)).map (·.x))) false false) := ⟨by rw [HTk.out]; exact ha⟩
          have F8 := Hd.mk (F7.out.only ho rfl)
          clear ha ho
          go_wp2_with fail
          exact ⟨⟨j + 1, by omega, by go_num, F8, A8⟩, by simp [intOf]; omega⟩
        · obtain rfl : R2 = j := by omega
          have hge : ¬ (R2 : Int) < R2 := by omega
          have E8 := Hd.mk (E6.out.only F7.out B3.out.1 B3.out.2)
          have A8 : Hd (AccIs wr b3 (paidZ L en) false false) := ⟨by
            have := A7.out
            rw [List.take_of_length_le (by rw [HR2.out]; exact Nat.le_refl _), E6.out.pz] at this
            exact this⟩
          have PL := Hd.mk (HPw.out _ E8.out.bl)
          have hN60 : N ≤ 60 := by have := of_decide_eq_false d60; omega
          clear hjl F7 A7 E6
          go_wp2_with fail
          go_loop [27, 29] (fun mv iv => ∃ j : Nat, j ≤ N ∧ iv = .int .i64 j ∧ mv = .int .i64 ((mineF (l.take j) cur).length : Nat)) (fun _ iv => N - (intOf iv).toNat)
          case atStart => exact ⟨0, Nat.zero_le _, rfl, by simp [mineF]⟩
          case round =>
            obtain ⟨j, hj, rfl, rfl⟩ := hrel
            by_cases hjl : j < N
            · have hj' : (j : Int) < N := by omega
              have j0 : (0 : Int) ≤ j := by omega
              obtain ⟨bb, oo, rfl, v1, v2, v3⟩ := PL.out.cell j (by rw [HN.out]; exact hjl)
              have e1 := mineF_take l cur j (by rw [HN.out]; exact hjl)
              have hml : (mineF (l.take j) cur).length ≤ 60 := by
                have h1 := mineF_len (l.take j) cur
                rw [List.length_take] at h1
                omega
              generalize (l.getD j fw0) = f at *
              by_cases hc : f.c = cur
              · have dc : (cur == cur) = true := by simp
                rw [hc] at v3
                rw [if_pos hc] at e1
                have e2 : (mineF (l.take (j + 1)) cur).length = (mineF (l.take j) cur).length + 1 := by rw [e1]; simp
                have HE2 := Hd.mk e2
                clear hc e1 e2 hjl v1 v2
                generalize (mineF (l.take j) cur).length = q2 at *
                go_wp2_with fail
                exact ⟨⟨j + 1, by omega, by go_num, by rw [HE2.out]; go_num⟩, by simp [intOf]; omega⟩
              · have dc : (f.c == cur) = false := by simp [hc]
                rw [if_neg hc] at e1
                have HE2 := Hd.mk e1
                clear hc e1 hjl v1 v2
                generalize hq3 : (mineF (l.take j) cur).length = q2 at *
                have HQ3 := Hd.mk hq3
                generalize f.c = fc at *
                clear hq3
                go_wp2_with fail
                exact ⟨⟨j + 1, by omega, by go_num, by rw [HE2.out, HQ3.out]⟩, by simp [intOf]; omega⟩
            · obtain rfl : N = j := by omega
              have hge2 : ¬ (N : Int) < N := by omega
              have eM : mineF (l.take N) cur = L := by rw [List.take_of_length_le (by rw [HN.out]; exact Nat.le_refl _)]; exact HLL.out
              rw [eM]
              have HB : Hd (AccB (paidZ L en)) := ⟨by
                have := bd_xs (paidF L en) (E8.out.lk.filter _).ok.wf
                exact this.accB (big_150 (Nat.le_trans (List.length_filter_le _ _) (Nat.le_trans E8.out.l60 (by decide))))⟩
              clear hjl eM
              go_wp2_with fail
              refine (lifeCash_any _ E8.out.la HB.out).mono ?_; rintro e w9 ⟨rfl, hb⟩
              have E9 := Hd.mk (E8.out.below hb)
              have A9 := Hd.mk (A8.out.below hb)
              clear hb E8 A8 PL
              go_wp2_with fail
              refine (lifeCash_any _ E9.out.lb HB.out).mono ?_; rintro e w10 ⟨rfl, hb⟩
              have E10 := Hd.mk (E9.out.below hb)
              have A10 := Hd.mk (A9.out.below hb)
              clear hb E9 A9
              have HVl := Hd.mk fun (w' : World) h => value_any b3 (paidZ L en) false false w' h HB.out
              have hTl : toldV (paidZ L en) = if fin (overA (paidZ L en) false false 1) then (overA (paidZ L en) false false 1, 0) else (0, 91) := rfl
              have hov := Hd.mk (overA_facts (paidZ L en))
              have HLf := Hd.mk fun (w' : World) h => lifeLeft_any (base := w.heap.size) (b := b1) (L := stayF L en) (z := paidZ L en) (cur := cur) (day := en) (ba := ba1) (a := a1) (c := c1) w' h (E10.out.lk.filter _).ok
              unfold LeftRet at HLf
              have HLr := Hd.mk fun (w' : World) h => lifeLeft_any (base := H1) (b := b2) (L := stayF L en) (z := paidZ L en) (cur := cur) (day := en) (ba := ba2) (a := a2) (c := c2) w' h (E10.out.lk.filter _).ok
              unfold LeftRet at HLr
              have HPa := Hd.mk fun (w' : World) h => lifePass_any en w' h ((E10.out.lk.filter _).ok) ((E10.out.lk.filter _).fn) (L := stayF L en) (base := w.heap.size) (b := b1) (z := paidZ L en) (cur := cur) (day := en) (ba := ba1) (a := a1) (c := c1)
              have hst60 : (stayF L en).length ≤ 60 := Nat.le_trans (List.length_filter_le _ _) E10.out.l60
              have hpn : paidF (stayF L en) en = [] := (stay_all (L := stayF L en) (n := en) (fun f hf => by
                unfold stayF at hf
                have := (List.mem_filter.1 hf).2
                simpa using this)).2
              have hss : stayF (stayF L en) en = stayF L en := stay_stay (Int.le_refl _)
              have hcnt : R2 + (stayF L en).length = L.length := by rw [← HR2.out, E10.out.pl]; exact paid_count L en
              have hpl : R2 = (paidF L en).length := by rw [← HR2.out]; exact E10.out.pl
              have q1 : ((R2 : Int) != ((paidF L en).length : Int)) = false := by rw [bne_eq_false_iff_eq]; omega
              have q2 : ((R2 : Int) + ((stayF L en).length : Int) != (L.length : Int)) = false := by rw [bne_eq_false_iff_eq]; omega
              have HOf := Hd.mk fun a' c' (w' : World) (h : Flws w' a' (stayF L en)) => of14_any a' (stayF L en) c' w' h hst60
              unfold OfFl at HOf
              have HSm := Hd.mk fun a' c' a'' c'' (w' : World) h1 h2 => same14_any a' (stayF L en) c' a'' c'' w' h1 h2
              have HPN := Hd.mk hpn
              have HSS := Hd.mk hss
              have hR60 : R2 ≤ 60 := hP60
              clear hcnt hpl hpn hss HB
              generalize hsl : (stayF L en).length = sl at *
              have HSl := Hd.mk hsl
              generalize (paidF L en).length = pl2 at *
              generalize L.length = LL at *
              generalize overA (paidZ L en) false false 1 = R at *
              generalize (toldV (paidZ L en)) = TV at *
              clear hsl
              cases hfR : fin R
              · skip
                rw [hfR] at hTl
                simp only [Bool.false_eq_true, if_false, if_true] at hTl
                subst hTl
                dsimp only
                clear hfR
                go_wp2_with fail
                refine (apiBits_any _ _).mono ?_; rintro e w11 ⟨rfl, rfl⟩
                go_wp2_with fail
                refine (apiBits_any _ _).mono ?_; rintro e w11 ⟨rfl, rfl⟩
                go_wp2_with fail
                refine (HLf.out _ E10.out.la).mono ?_; rintro e w12 ⟨a12, c12, rfl, _, hb⟩
                have E12 := Hd.mk (E10.out.below hb)
                clear hb E10
                go_wp2_with fail
                refine (HPa.out _ E12.out.la).mono ?_
                rintro e w13 (⟨h, _⟩ | ⟨_, h, _⟩ | ⟨_, _, ⟨az, rfl, _⟩, hLz, hfz⟩)
                · rw [HD.out] at h; cases h
                · exfalso; omega
                have LA13 : Hd (Led w13 w.heap.size b1 (stayF L en) (paidZ L en) cur en ba1 a1 c1) := ⟨by
                  have hz0 : paidZ (stayF L en) en = 0 := by unfold paidZ; rw [HPN.out]; rfl
                  rw [HSS.out, hz0, Int.add_zero] at hLz
                  exact hLz⟩
                have LB13 := Hd.mk (E12.out.lb.frm hfz fun k s => E12.out.ib.not (Or.inl (E12.out.ia.S k s).2))
                have BL13 := Hd.mk (hfz.to_below E12.out.bl (fun k s => (E12.out.ia.S k s).1) E12.out.bl.size)
                rw [HPN.out]
                clear hLz hfz E12
                rw [show ([] : List Fw).length = 0 from rfl]
                go_wp2_with fail
                refine (HLf.out _ LA13.out).mono ?_; rintro e w14 ⟨a14, c14, rfl, hf14, hb⟩
                have LB14 := Hd.mk (LB13.out.below hb)
                have BL14 := Hd.mk (BL13.out.trans (hb.mono BL13.out.size))
                have F14 := Hd.mk hf14.1
                clear hb hf14 LA13 LB13 BL13
                go_wp2_with fail
                refine (HLr.out _ LB14.out).mono ?_; rintro e w15 ⟨a15, c15, rfl, hf15, hb⟩
                have BL15 := Hd.mk (BL14.out.trans (hb.mono BL14.out.size))
                have F15 := Hd.mk (F14.out.below hb)
                have G15 := Hd.mk hf15.1
                clear hb hf15 LB14 BL14 F14
                go_wp2_with fail
                refine (HOf.out _ _ _ G15.out).mono ?_; rintro e w16 ⟨a16, c16, rfl, hu, hb⟩
                have BL16 := Hd.mk (BL15.out.trans (hb.mono BL15.out.size))
                have F16 := Hd.mk (F15.out.below hb)
                have U16 := Hd.mk hu
                clear hb hu BL15 F15 G15
                go_wp2_with fail
                refine (HSm.out _ _ _ _ _ F16.out U16.out).mono ?_; rintro e w17 ⟨rfl, hb⟩
                have BL17 := Hd.mk (BL16.out.trans (hb.mono BL16.out.size))
                clear hb F16 U16 BL16
                go_wp2_with fail
                refine (awake24_any _).mono ?_; rintro e w18 ⟨rfl, hb⟩
                have BL18 := Hd.mk (BL17.out.trans (hb.mono BL17.out.size))
                clear hb
                go_wp2_with fail
                go_ret
                exact ⟨rfl, BL18.out⟩
              · skip
                rw [hfR] at hTl
                simp only [Bool.false_eq_true, if_false, if_true] at hTl
                subst hTl
                dsimp only
                have q3 : (((R : Nat) : Int) != ((R : Nat) : Int)) = false := by simp
                clear hfR
                go_wp2_with fail
                refine (apiBits_any _ _).mono ?_; rintro e w11 ⟨rfl, rfl⟩
                go_wp2_with fail
                refine (apiBits_any _ _).mono ?_; rintro e w11 ⟨rfl, rfl⟩
                go_wp2_with fail
                refine (apiBits_any _ _).mono ?_; rintro e w11 ⟨rfl, rfl⟩
                go_wp2_with fail
                refine (HVl.out _ A10.out).mono ?_; rintro e w11 ⟨rfl, hb⟩
                have E11 := Hd.mk (E10.out.below hb)
                clear hb E10 A10
                go_wp2_with fail
                refine (apiBits_any _ _).mono ?_; rintro e w11 ⟨rfl, rfl⟩
                go_wp2_with fail
                refine (HLf.out _ E11.out.la).mono ?_; rintro e w12 ⟨a12, c12, rfl, _, hb⟩
                have E12 := Hd.mk (E11.out.below hb)
                clear hb E11
                go_wp2_with fail
                refine (HPa.out _ E12.out.la).mono ?_
                rintro e w13 (⟨h, _⟩ | ⟨_, h, _⟩ | ⟨_, _, ⟨az, rfl, _⟩, hLz, hfz⟩)
                · rw [HD.out] at h; cases h
                · exfalso; omega
                have LA13 : Hd (Led w13 w.heap.size b1 (stayF L en) (paidZ L en) cur en ba1 a1 c1) := ⟨by
                  have hz0 : paidZ (stayF L en) en = 0 := by unfold paidZ; rw [HPN.out]; rfl
                  rw [HSS.out, hz0, Int.add_zero] at hLz
                  exact hLz⟩
                have LB13 := Hd.mk (E12.out.lb.frm hfz fun k s => E12.out.ib.not (Or.inl (E12.out.ia.S k s).2))
                have BL13 := Hd.mk (hfz.to_below E12.out.bl (fun k s => (E12.out.ia.S k s).1) E12.out.bl.size)
                rw [HPN.out]
                clear hLz hfz E12
                rw [show ([] : List Fw).length = 0 from rfl]
                go_wp2_with fail
                refine (HLf.out _ LA13.out).mono ?_; rintro e w14 ⟨a14, c14, rfl, hf14, hb⟩
                have LB14 := Hd.mk (LB13.out.below hb)
                have BL14 := Hd.mk (BL13.out.trans (hb.mono BL13.out.size))
                have F14 := Hd.mk hf14.1
                clear hb hf14 LA13 LB13 BL13
                go_wp2_with fail
                refine (HLr.out _ LB14.out).mono ?_; rintro e w15 ⟨a15, c15, rfl, hf15, hb⟩
                have BL15 := Hd.mk (BL14.out.trans (hb.mono BL14.out.size))
                have F15 := Hd.mk (F14.out.below hb)
                have G15 := Hd.mk hf15.1
                clear hb hf15 LB14 BL14 F14
                go_wp2_with fail
                refine (HOf.out _ _ _ G15.out).mono ?_; rintro e w16 ⟨a16, c16, rfl, hu, hb⟩
                have BL16 := Hd.mk (BL15.out.trans (hb.mono BL15.out.size))
                have F16 := Hd.mk (F15.out.below hb)
                have U16 := Hd.mk hu
                clear hb hu BL15 F15 G15
                go_wp2_with fail
                refine (HSm.out _ _ _ _ _ F16.out U16.out).mono ?_; rintro e w17 ⟨rfl, hb⟩
                have BL17 := Hd.mk (BL16.out.trans (hb.mono BL16.out.size))
                clear hb F16 U16 BL16
                go_wp2_with fail
                refine (awake24_any _).mono ?_; rintro e w18 ⟨rfl, hb⟩
                have BL18 := Hd.mk (BL17.out.trans (hb.mono BL17.out.size))
                clear hb
                go_wp2_with fail
                go_ret
                exact ⟨rfl, BL18.out⟩
    by_cases hl20 : i < 20
    rotate_left
    · have dM2 : decide (i < M) = true := by simpa using hlM
      have dM' : (i : Int) < M := by omega
      have d20 : decide ((i : Int) < 20) = false := by simp; omega
      clear hlM hl20
      have HI := Hd.mk fun (w' : World) h => lifePass_any en w' h ((SS.out.lk.filter _).ok) ((SS.out.lk.filter _).fn) (L := stayF L at_) (base := w.heap.size) (b := b1) (z := paidZ L at_) (cur := cur) (day := at_) (ba := ba1) (a := a1) (c := c1)
      have HJ := Hd.mk fun (w' : World) h => lifePass_any en w' h SS.out.lk.ok SS.out.lk.fn (L := L) (base := H1) (b := b2) (z := 0) (cur := cur) (day := day) (ba := ba2) (a := a2) (c := c2)
      have AE := Hd.mk SS.out.ae
      have DA := Hd.mk SS.out.da
      go_wp2_with fail
      refine (HI.out _ SS.out.la).mono ?_
      rintro e w3 (⟨hd, rfl, rfl⟩ | ⟨hd, hp, rfl, rfl⟩ | ⟨hd, hp, ⟨ak, rfl, hfr⟩, hL, hfm⟩)
      · have HD := Hd.mk hd
        clear hd
        go_wp2_with fail
        refine (HJ.out _ SS.out.lb).mono ?_
        rintro e w4 (⟨_, rfl, rfl⟩ | ⟨h, _⟩ | ⟨h, _⟩)
        rotate_left
        · rw [HD.out] at h; cases h
        · rw [HD.out] at h; cases h
        go_wp2_with fail
        refine (awake24_any _).mono ?_; rintro e w5 ⟨rfl, hb⟩
        have C5 := Hd.mk (SS.out.bl.trans (hb.mono SS.out.bl.size))
        clear hb
        go_wp2_with fail
        go_ret
        exact ⟨rfl, C5.out⟩
      · have HD := Hd.mk hd
        have HPp := Hd.mk hp
        clear hd hp
        go_wp2_with fail
        refine (HJ.out _ SS.out.lb).mono ?_
        rintro e w4 (⟨h, _⟩ | ⟨_, _, rfl, rfl⟩ | ⟨_, h, _⟩)
        · rw [HD.out] at h; cases h
        rotate_left
        · exfalso; have := AE.out; have := DA.out; have := HPp.out; omega
        go_wp2_with fail
        refine (awake24_any _).mono ?_; rintro e w5 ⟨rfl, hb⟩
        have C5 := Hd.mk (SS.out.bl.trans (hb.mono SS.out.bl.size))
        clear hb
        go_wp2_with fail
        go_ret
        exact ⟨rfl, C5.out⟩
      have MM := Hd.mk (SS.out.pass hp hL hfm hfr)
      have HD := Hd.mk hd
      have HPp := Hd.mk hp
      clear hd hp hL hfm hfr HI
      go_wp2_with fail
      refine (HJ.out _ MM.out.lb).mono ?_
      rintro e w4 (⟨h, _⟩ | ⟨_, h, _⟩ | ⟨_, _, ⟨am, rfl, _⟩, hL2, hfm2⟩)
      · rw [HD.out] at h; cases h
      · exfalso; have := DA.out; have := HPp.out; omega
      obtain ⟨la4, ow4, fk4, bl4, hz4⟩ := StpM.both SS.out MM.out hL2 hfm2
      have LA := Hd.mk la4
      have LB := Hd.mk hL2
      have OW := Hd.mk ow4
      have FK := Hd.mk fk4
      have BL := Hd.mk bl4
      have HZ4 := Hd.mk hz4
      have h100 : P.length + (paidF (stayF L at_) en).length ≤ 100000 := by
        have h1 := SS.out.p60
        have h2 : (paidF (stayF L at_) en).length ≤ L.length := Nat.le_trans (List.length_filter_le _ _) (List.length_filter_le _ _)
        have := SS.out.l60
        omega
      have H100 := Hd.mk h100
      clear la4 ow4 fk4 bl4 hz4 hL2 hfm2 HJ MM h100
      go_wp2_with (at_builtin; go_must (refine wpList_app_flows rfl (.tmp 179) (.tmp 180) rfl H2 (.slice ap P.length cp) P rfl OW.out ak (paidF (stayF L at_) en) rfl FK.out H100.out HZ4.out ?_))
      intro P2 a5 c5 w5 hP2 ho5 hb5
      have ES := StpM.fin SS.out HPp.out LA.out LB.out BL.out HZ4.out (by rw [← hP2.out]; exact ho5) hb5
      rw [← hP2.out] at ES
      have E5 := Hd.mk ES
      clear ES ho5 hb5 hP2 LA LB OW FK BL HZ4 H100 SS AE DA
      go_wp2_with fail
      refine (new_any _).mono ?_; rintro e w6 ⟨b3, rfl, hb3, hacc, hb⟩
      have E6 := Hd.mk (E5.out.below hb)
      have B3 : Hd (H2 ≤ b3 ∧ (Value.slice a5 P2.length c5).ownBlock ≠ some b3) := ⟨⟨Nat.le_trans E5.out.hz hb3, fun e => by have := (E5.out.ow.lt b3 e).2; omega⟩⟩
      have A6 : Hd (AccIs w6 b3 (zS ((P2.take 0).map (·.x))) false false) := ⟨hacc⟩
      have F6 : Hd (Frm (fun k => k = b3) w6 w6) := ⟨Frm.refl _ _⟩
      clear hb hb3 hacc E5
      have hP60 : P2.length ≤ 60 := by
        have h1 := E6.out.pl
        have h2 : (paidF L en).length ≤ L.length := List.length_filter_le _ _
        have := E6.out.l60
        omega
      obtain ⟨R2, hR2⟩ : ∃ R2, P2.length = R2 := ⟨_, rfl⟩
      have HR2 := Hd.mk hR2
      rw [hR2] at hP60 ⊢
      clear hR2
      go_wp2_with fail
      go_loopw [28] (fun iv wr => ∃ j : Nat, j ≤ R2 ∧ iv = .int .i64 j ∧ Hd (Frm (fun k => k = b3) w6 wr) ∧ Hd (AccIs wr b3 (zS ((P2.take j).map (·.x))) false false)) (fun iv _ => R2 - (intOf iv).toNat)
      case atStart => exact ⟨0, Nat.zero_le _, rfl, F6, A6⟩
      case round =>
        clear F6 A6
        obtain ⟨j, hj, rfl, F7, A7⟩ := hrel
        by_cases hjl : j < R2
        · have hj' : (j : Int) < R2 := by omega
          have j0 : (0 : Int) ≤ j := by omega
          have E7 := E6.out.only F7.out B3.out.1 B3.out.2
          obtain ⟨bb, oo, rfl, v1, v2, v3⟩ := E7.flws.cell j (by rw [HR2.out]; exact hjl)
          have hwf := E7.pk.ok.wf j
          have hfn := E7.pk.fn j (by rw [HR2.out]; exact hjl)
          have hup := flagB_fin _ hfn
          have HTk : Hd (zS ((P2.take (j + 1)).map (·.x)) = zS ((P2.take j).map (·.x)) + aZ (P2.getD j fw0).x) := ⟨by
            rw [take_snocF P2 j (by rw [HR2.out]; exact hjl), List.map_append]; exact zS_snoc _ _⟩
          have HAd := Hd.mk fun (w' : World) h => accAdd_any b3 (zS ((P2.take j).map (·.x))) false false (P2.getD j fw0).x w' h hwf
          rw [hup.1, hup.2] at HAd
          clear E7 hup hfn hwf hjl v1 v3
          generalize (P2.getD j fw0).x = fx at *
          go_wp2_with fail
          refine (HAd.out _ A7.out).mono ?_; rintro e w8 ⟨rfl, ha, ho⟩
          have A8 : Hd (AccIs w8 b3 (zS ((P2.take (j + 1)).map (·.x))) false false) := ⟨by rw [HTk.out]; exact ha⟩
          have F8 := Hd.mk (F7.out.only ho rfl)
          clear ha ho
          go_wp2_with fail
          exact ⟨⟨j + 1, by omega, by go_num, F8, A8⟩, by simp [intOf]; omega⟩
        · obtain rfl : R2 = j := by omega
          have hge : ¬ (R2 : Int) < R2 := by omega
          have E8 := Hd.mk (E6.out.only F7.out B3.out.1 B3.out.2)
          have A8 : Hd (AccIs wr b3 (paidZ L en) false false) := ⟨by
            have := A7.out
            rw [List.take_of_length_le (by rw [HR2.out]; exact Nat.le_refl _), E6.out.pz] at this
            exact this⟩
          have PL := Hd.mk (HPw.out _ E8.out.bl)
          have hN60 : N ≤ 60 := by have := of_decide_eq_false d60; omega
          clear hjl F7 A7 E6
          go_wp2_with fail
          go_loop [27, 29] (fun mv iv => ∃ j : Nat, j ≤ N ∧ iv = .int .i64 j ∧ mv = .int .i64 ((mineF (l.take j) cur).length : Nat)) (fun _ iv => N - (intOf iv).toNat)
          case atStart => exact ⟨0, Nat.zero_le _, rfl, by simp [mineF]⟩
          case round =>
            obtain ⟨j, hj, rfl, rfl⟩ := hrel
            by_cases hjl : j < N
            · have hj' : (j : Int) < N := by omega
              have j0 : (0 : Int) ≤ j := by omega
              obtain ⟨bb, oo, rfl, v1, v2, v3⟩ := PL.out.cell j (by rw [HN.out]; exact hjl)
              have e1 := mineF_take l cur j (by rw [HN.out]; exact hjl)
              have hml : (mineF (l.take j) cur).length ≤ 60 := by
                have h1 := mineF_len (l.take j) cur
                rw [List.length_take] at h1
                omega
              generalize (l.getD j fw0) = f at *
              by_cases hc : f.c = cur
              · have dc : (cur == cur) = true := by simp
                rw [hc] at v3
                rw [if_pos hc] at e1
                have e2 : (mineF (l.take (j + 1)) cur).length = (mineF (l.take j) cur).length + 1 := by rw [e1]; simp
                have HE2 := Hd.mk e2
                clear hc e1 e2 hjl v1 v2
                generalize (mineF (l.take j) cur).length = q2 at *
                go_wp2_with fail
                exact ⟨⟨j + 1, by omega, by go_num, by rw [HE2.out]; go_num⟩, by simp [intOf]; omega⟩
              · have dc : (f.c == cur) = false := by simp [hc]
                rw [if_neg hc] at e1
                have HE2 := Hd.mk e1
                clear hc e1 hjl v1 v2
                generalize hq3 : (mineF (l.take j) cur).length = q2 at *
                have HQ3 := Hd.mk hq3
                generalize f.c = fc at *
                clear hq3
                go_wp2_with fail
                exact ⟨⟨j + 1, by omega, by go_num, by rw [HE2.out, HQ3.out]⟩, by simp [intOf]; omega⟩
            · obtain rfl : N = j := by omega
              have hge2 : ¬ (N : Int) < N := by omega
              have eM : mineF (l.take N) cur = L := by rw [List.take_of_length_le (by rw [HN.out]; exact Nat.le_refl _)]; exact HLL.out
              rw [eM]
              have HB : Hd (AccB (paidZ L en)) := ⟨by
                have := bd_xs (paidF L en) (E8.out.lk.filter _).ok.wf
                exact this.accB (big_150 (Nat.le_trans (List.length_filter_le _ _) (Nat.le_trans E8.out.l60 (by decide))))⟩
              clear hjl eM
              go_wp2_with fail
              refine (lifeCash_any _ E8.out.la HB.out).mono ?_; rintro e w9 ⟨rfl, hb⟩
              have E9 := Hd.mk (E8.out.below hb)
              have A9 := Hd.mk (A8.out.below hb)
              clear hb E8 A8 PL
              go_wp2_with fail
              refine (lifeCash_any _ E9.out.lb HB.out).mono ?_; rintro e w10 ⟨rfl, hb⟩
              have E10 := Hd.mk (E9.out.below hb)
              have A10 := Hd.mk (A9.out.below hb)
              clear hb E9 A9
              have HVl := Hd.mk fun (w' : World) h => value_any b3 (paidZ L en) false false w' h HB.out
              have hTl : toldV (paidZ L en) = if fin (overA (paidZ L en) false false 1) then (overA (paidZ L en) false false 1, 0) else (0, 91) := rfl
              have hov := Hd.mk (overA_facts (paidZ L en))
              have HLf := Hd.mk fun (w' : World) h => lifeLeft_any (base := w.heap.size) (b := b1) (L := stayF L en) (z := paidZ L en) (cur := cur) (day := en) (ba := ba1) (a := a1) (c := c1) w' h (E10.out.lk.filter _).ok
              unfold LeftRet at HLf
              have HLr := Hd.mk fun (w' : World) h => lifeLeft_any (base := H1) (b := b2) (L := stayF L en) (z := paidZ L en) (cur := cur) (day := en) (ba := ba2) (a := a2) (c := c2) w' h (E10.out.lk.filter _).ok
              unfold LeftRet at HLr
              have HPa := Hd.mk fun (w' : World) h => lifePass_any en w' h ((E10.out.lk.filter _).ok) ((E10.out.lk.filter _).fn) (L := stayF L en) (base := w.heap.size) (b := b1) (z := paidZ L en) (cur := cur) (day := en) (ba := ba1) (a := a1) (c := c1)
              have hst60 : (stayF L en).length ≤ 60 := Nat.le_trans (List.length_filter_le _ _) E10.out.l60
              have hpn : paidF (stayF L en) en = [] := (stay_all (L := stayF L en) (n := en) (fun f hf => by
                unfold stayF at hf
                have := (List.mem_filter.1 hf).2
                simpa using this)).2
              have hss : stayF (stayF L en) en = stayF L en := stay_stay (Int.le_refl _)
              have hcnt : R2 + (stayF L en).length = L.length := by rw [← HR2.out, E10.out.pl]; exact paid_count L en
              have hpl : R2 = (paidF L en).length := by rw [← HR2.out]; exact E10.out.pl
              have q1 : ((R2 : Int) != ((paidF L en).length : Int)) = false := by rw [bne_eq_false_iff_eq]; omega
              have q2 : ((R2 : Int) + ((stayF L en).length : Int) != (L.length : Int)) = false := by rw [bne_eq_false_iff_eq]; omega
              have HOf := Hd.mk fun a' c' (w' : World) (h : Flws w' a' (stayF L en)) => of14_any a' (stayF L en) c' w' h hst60
              unfold OfFl at HOf
              have HSm := Hd.mk fun a' c' a'' c'' (w' : World) h1 h2 => same14_any a' (stayF L en) c' a'' c'' w' h1 h2
              have HPN := Hd.mk hpn
              have HSS := Hd.mk hss
              have hR60 : R2 ≤ 60 := hP60
              clear hcnt hpl hpn hss HB
              generalize hsl : (stayF L en).length = sl at *
              have HSl := Hd.mk hsl
              generalize (paidF L en).length = pl2 at *
              generalize L.length = LL at *
              generalize overA (paidZ L en) false false 1 = R at *
              generalize (toldV (paidZ L en)) = TV at *
              clear hsl
              cases hfR : fin R
              · skip
                rw [hfR] at hTl
                simp only [Bool.false_eq_true, if_false, if_true] at hTl
                subst hTl
                dsimp only
                clear hfR
                go_wp2_with fail
                refine (apiBits_any _ _).mono ?_; rintro e w11 ⟨rfl, rfl⟩
                go_wp2_with fail
                refine (apiBits_any _ _).mono ?_; rintro e w11 ⟨rfl, rfl⟩
                go_wp2_with fail
                refine (HLf.out _ E10.out.la).mono ?_; rintro e w12 ⟨a12, c12, rfl, _, hb⟩
                have E12 := Hd.mk (E10.out.below hb)
                clear hb E10
                go_wp2_with fail
                refine (HPa.out _ E12.out.la).mono ?_
                rintro e w13 (⟨h, _⟩ | ⟨_, h, _⟩ | ⟨_, _, ⟨az, rfl, _⟩, hLz, hfz⟩)
                · rw [HD.out] at h; cases h
                · exfalso; omega
                have LA13 : Hd (Led w13 w.heap.size b1 (stayF L en) (paidZ L en) cur en ba1 a1 c1) := ⟨by
                  have hz0 : paidZ (stayF L en) en = 0 := by unfold paidZ; rw [HPN.out]; rfl
                  rw [HSS.out, hz0, Int.add_zero] at hLz
                  exact hLz⟩
                have LB13 := Hd.mk (E12.out.lb.frm hfz fun k s => E12.out.ib.not (Or.inl (E12.out.ia.S k s).2))
                have BL13 := Hd.mk (hfz.to_below E12.out.bl (fun k s => (E12.out.ia.S k s).1) E12.out.bl.size)
                rw [HPN.out]
                clear hLz hfz E12
                rw [show ([] : List Fw).length = 0 from rfl]
                go_wp2_with fail
                refine (HLf.out _ LA13.out).mono ?_; rintro e w14 ⟨a14, c14, rfl, hf14, hb⟩
                have LB14 := Hd.mk (LB13.out.below hb)
                have BL14 := Hd.mk (BL13.out.trans (hb.mono BL13.out.size))
                have F14 := Hd.mk hf14.1
                clear hb hf14 LA13 LB13 BL13
                go_wp2_with fail
                refine (HLr.out _ LB14.out).mono ?_; rintro e w15 ⟨a15, c15, rfl, hf15, hb⟩
                have BL15 := Hd.mk (BL14.out.trans (hb.mono BL14.out.size))
                have F15 := Hd.mk (F14.out.below hb)
                have G15 := Hd.mk hf15.1
                clear hb hf15 LB14 BL14 F14
                go_wp2_with fail
                refine (HOf.out _ _ _ G15.out).mono ?_; rintro e w16 ⟨a16, c16, rfl, hu, hb⟩
                have BL16 := Hd.mk (BL15.out.trans (hb.mono BL15.out.size))
                have F16 := Hd.mk (F15.out.below hb)
                have U16 := Hd.mk hu
                clear hb hu BL15 F15 G15
                go_wp2_with fail
                refine (HSm.out _ _ _ _ _ F16.out U16.out).mono ?_; rintro e w17 ⟨rfl, hb⟩
                have BL17 := Hd.mk (BL16.out.trans (hb.mono BL16.out.size))
                clear hb F16 U16 BL16
                go_wp2_with fail
                refine (awake24_any _).mono ?_; rintro e w18 ⟨rfl, hb⟩
                have BL18 := Hd.mk (BL17.out.trans (hb.mono BL17.out.size))
                clear hb
                go_wp2_with fail
                go_ret
                exact ⟨rfl, BL18.out⟩
              · skip
                rw [hfR] at hTl
                simp only [Bool.false_eq_true, if_false, if_true] at hTl
                subst hTl
                dsimp only
                have q3 : (((R : Nat) : Int) != ((R : Nat) : Int)) = false := by simp
                clear hfR
                go_wp2_with fail
                refine (apiBits_any _ _).mono ?_; rintro e w11 ⟨rfl, rfl⟩
                go_wp2_with fail
                refine (apiBits_any _ _).mono ?_; rintro e w11 ⟨rfl, rfl⟩
                go_wp2_with fail
                refine (apiBits_any _ _).mono ?_; rintro e w11 ⟨rfl, rfl⟩
                go_wp2_with fail
                refine (HVl.out _ A10.out).mono ?_; rintro e w11 ⟨rfl, hb⟩
                have E11 := Hd.mk (E10.out.below hb)
                clear hb E10 A10
                go_wp2_with fail
                refine (apiBits_any _ _).mono ?_; rintro e w11 ⟨rfl, rfl⟩
                go_wp2_with fail
                refine (HLf.out _ E11.out.la).mono ?_; rintro e w12 ⟨a12, c12, rfl, _, hb⟩
                have E12 := Hd.mk (E11.out.below hb)
                clear hb E11
                go_wp2_with fail
                refine (HPa.out _ E12.out.la).mono ?_
                rintro e w13 (⟨h, _⟩ | ⟨_, h, _⟩ | ⟨_, _, ⟨az, rfl, _⟩, hLz, hfz⟩)
                · rw [HD.out] at h; cases h
                · exfalso; omega
                have LA13 : Hd (Led w13 w.heap.size b1 (stayF L en) (paidZ L en) cur en ba1 a1 c1) := ⟨by
                  have hz0 : paidZ (stayF L en) en = 0 := by unfold paidZ; rw [HPN.out]; rfl
                  rw [HSS.out, hz0, Int.add_zero] at hLz
                  exact hLz⟩
                have LB13 := Hd.mk (E12.out.lb.frm hfz fun k s => E12.out.ib.not (Or.inl (E12.out.ia.S k s).2))
                have BL13 := Hd.mk (hfz.to_below E12.out.bl (fun k s => (E12.out.ia.S k s).1) E12.out.bl.size)
                rw [HPN.out]
                clear hLz hfz E12
                rw [show ([] : List Fw).length = 0 from rfl]
                go_wp2_with fail
                refine (HLf.out _ LA13.out).mono ?_; rintro e w14 ⟨a14, c14, rfl, hf14, hb⟩
                have LB14 := Hd.mk (LB13.out.below hb)
                have BL14 := Hd.mk (BL13.out.trans (hb.mono BL13.out.size))
                have F14 := Hd.mk hf14.1
                clear hb hf14 LA13 LB13 BL13
                go_wp2_with fail
                refine (HLr.out _ LB14.out).mono ?_; rintro e w15 ⟨a15, c15, rfl, hf15, hb⟩
                have BL15 := Hd.mk (BL14.out.trans (hb.mono BL14.out.size))
                have F15 := Hd.mk (F14.out.below hb)
                have G15 := Hd.mk hf15.1
                clear hb hf15 LB14 BL14 F14
                go_wp2_with fail
                refine (HOf.out _ _ _ G15.out).mono ?_; rintro e w16 ⟨a16, c16, rfl, hu, hb⟩
                have BL16 := Hd.mk (BL15.out.trans (hb.mono BL15.out.size))
                have F16 := Hd.mk (F15.out.below hb)
                have U16 := Hd.mk hu
                clear hb hu BL15 F15 G15
                go_wp2_with fail
                refine (HSm.out _ _ _ _ _ F16.out U16.out).mono ?_; rintro e w17 ⟨rfl, hb⟩
                have BL17 := Hd.mk (BL16.out.trans (hb.mono BL16.out.size))
                clear hb F16 U16 BL16
                go_wp2_with fail
                refine (awake24_any _).mono ?_; rintro e w18 ⟨rfl, hb⟩
                have BL18 := Hd.mk (BL17.out.trans (hb.mono BL17.out.size))
                clear hb
                go_wp2_with fail
                go_ret
                exact ⟨rfl, BL18.out⟩
    have dM2 : decide (i < M) = true := by simpa using hlM
    have dM' : (i : Int) < M := by omega
    have d20 : decide ((i : Int) < 20) = true := by simp; omega
    have k0 : (0 : Int) ≤ i := by omega
    obtain ⟨bs, os, rfl, cst⟩ := (HSw.out _ SS.out.bl).cell i (by rw [HM.out]; exact hlM)
    obtain ⟨s0, s1⟩ := and_1023 (St.getD i 0)
    generalize St.getD i 0 = sv at *
    generalize hq : bits .and .i64 sv 1023 = q at *
    by_cases hbr : en < at_ + q
    · have db : decide (at_ + q > en) = true := decide_eq_true hbr
      clear hlM hl20 hbr
      have HI := Hd.mk fun (w' : World) h => lifePass_any en w' h ((SS.out.lk.filter _).ok) ((SS.out.lk.filter _).fn) (L := stayF L at_) (base := w.heap.size) (b := b1) (z := paidZ L at_) (cur := cur) (day := at_) (ba := ba1) (a := a1) (c := c1)
      have HJ := Hd.mk fun (w' : World) h => lifePass_any en w' h SS.out.lk.ok SS.out.lk.fn (L := L) (base := H1) (b := b2) (z := 0) (cur := cur) (day := day) (ba := ba2) (a := a2) (c := c2)
      have AE := Hd.mk SS.out.ae
      have DA := Hd.mk SS.out.da
      go_wp2_with fail
      refine (HI.out _ SS.out.la).mono ?_
      rintro e w3 (⟨hd, rfl, rfl⟩ | ⟨hd, hp, rfl, rfl⟩ | ⟨hd, hp, ⟨ak, rfl, hfr⟩, hL, hfm⟩)
      · have HD := Hd.mk hd
        clear hd
        go_wp2_with fail
        refine (HJ.out _ SS.out.lb).mono ?_
        rintro e w4 (⟨_, rfl, rfl⟩ | ⟨h, _⟩ | ⟨h, _⟩)
        rotate_left
        · rw [HD.out] at h; cases h
        · rw [HD.out] at h; cases h
        go_wp2_with fail
        refine (awake24_any _).mono ?_; rintro e w5 ⟨rfl, hb⟩
        have C5 := Hd.mk (SS.out.bl.trans (hb.mono SS.out.bl.size))
        clear hb
        go_wp2_with fail
        go_ret
        exact ⟨rfl, C5.out⟩
      · have HD := Hd.mk hd
        have HPp := Hd.mk hp
        clear hd hp
        go_wp2_with fail
        refine (HJ.out _ SS.out.lb).mono ?_
        rintro e w4 (⟨h, _⟩ | ⟨_, _, rfl, rfl⟩ | ⟨_, h, _⟩)
        · rw [HD.out] at h; cases h
        rotate_left
        · exfalso; have := AE.out; have := DA.out; have := HPp.out; omega
        go_wp2_with fail
        refine (awake24_any _).mono ?_; rintro e w5 ⟨rfl, hb⟩
        have C5 := Hd.mk (SS.out.bl.trans (hb.mono SS.out.bl.size))
        clear hb
        go_wp2_with fail
        go_ret
        exact ⟨rfl, C5.out⟩
      have MM := Hd.mk (SS.out.pass hp hL hfm hfr)
      have HD := Hd.mk hd
      have HPp := Hd.mk hp
      clear hd hp hL hfm hfr HI
      go_wp2_with fail
      refine (HJ.out _ MM.out.lb).mono ?_
      rintro e w4 (⟨h, _⟩ | ⟨_, h, _⟩ | ⟨_, _, ⟨am, rfl, _⟩, hL2, hfm2⟩)
      · rw [HD.out] at h; cases h
      · exfalso; have := DA.out; have := HPp.out; omega
      obtain ⟨la4, ow4, fk4, bl4, hz4⟩ := StpM.both SS.out MM.out hL2 hfm2
      have LA := Hd.mk la4
      have LB := Hd.mk hL2
      have OW := Hd.mk ow4
      have FK := Hd.mk fk4
      have BL := Hd.mk bl4
      have HZ4 := Hd.mk hz4
      have h100 : P.length + (paidF (stayF L at_) en).length ≤ 100000 := by
        have h1 := SS.out.p60
        have h2 : (paidF (stayF L at_) en).length ≤ L.length := Nat.le_trans (List.length_filter_le _ _) (List.length_filter_le _ _)
        have := SS.out.l60
        omega
      have H100 := Hd.mk h100
      clear la4 ow4 fk4 bl4 hz4 hL2 hfm2 HJ MM h100
      go_wp2_with (at_builtin; go_must (refine wpList_app_flows rfl (.tmp 179) (.tmp 180) rfl H2 (.slice ap P.length cp) P rfl OW.out ak (paidF (stayF L at_) en) rfl FK.out H100.out HZ4.out ?_))
      intro P2 a5 c5 w5 hP2 ho5 hb5
      have ES := StpM.fin SS.out HPp.out LA.out LB.out BL.out HZ4.out (by rw [← hP2.out]; exact ho5) hb5
      rw [← hP2.out] at ES
      have E5 := Hd.mk ES
      clear ES ho5 hb5 hP2 LA LB OW FK BL HZ4 H100 SS AE DA
      go_wp2_with fail
      refine (new_any _).mono ?_; rintro e w6 ⟨b3, rfl, hb3, hacc, hb⟩
      have E6 := Hd.mk (E5.out.below hb)
      have B3 : Hd (H2 ≤ b3 ∧ (Value.slice a5 P2.length c5).ownBlock ≠ some b3) := ⟨⟨Nat.le_trans E5.out.hz hb3, fun e => by have := (E5.out.ow.lt b3 e).2; omega⟩⟩
      have A6 : Hd (AccIs w6 b3 (zS ((P2.take 0).map (·.x))) false false) := ⟨hacc⟩
      have F6 : Hd (Frm (fun k => k = b3) w6 w6) := ⟨Frm.refl _ _⟩
      clear hb hb3 hacc E5
      have hP60 : P2.length ≤ 60 := by
        have h1 := E6.out.pl
        have h2 : (paidF L en).length ≤ L.length := List.length_filter_le _ _
        have := E6.out.l60
        omega
      obtain ⟨R2, hR2⟩ : ∃ R2, P2.length = R2 := ⟨_, rfl⟩
      have HR2 := Hd.mk hR2
      rw [hR2] at hP60 ⊢
      clear hR2
      go_wp2_with fail
      go_loopw [28] (fun iv wr => ∃ j : Nat, j ≤ R2 ∧ iv = .int .i64 j ∧ Hd (Frm (fun k => k = b3) w6 wr) ∧ Hd (AccIs wr b3 (zS ((P2.take j).map (·.x))) false false)) (fun iv _ => R2 - (intOf iv).toNat)
      case atStart => exact ⟨0, Nat.zero_le _, rfl, F6, A6⟩
      case round =>
        clear F6 A6
        obtain ⟨j, hj, rfl, F7, A7⟩ := hrel
        by_cases hjl : j < R2
        · have hj' : (j : Int) < R2 := by omega
          have j0 : (0 : Int) ≤ j := by omega
          have E7 := E6.out.only F7.out B3.out.1 B3.out.2
          obtain ⟨bb, oo, rfl, v1, v2, v3⟩ := E7.flws.cell j (by rw [HR2.out]; exact hjl)
          have hwf := E7.pk.ok.wf j
          have hfn := E7.pk.fn j (by rw [HR2.out]; exact hjl)
          have hup := flagB_fin _ hfn
          have HTk : Hd (zS ((P2.take (j + 1)).map (·.x)) = zS ((P2.take j).map (·.x)) + aZ (P2.getD j fw0).x) := ⟨by
            rw [take_snocF P2 j (by rw [HR2.out]; exact hjl), List.map_append]; exact zS_snoc _ _⟩
          have HAd := Hd.mk fun (w' : World) h => accAdd_any b3 (zS ((P2.take j).map (·.x))) false false (P2.getD j fw0).x w' h hwf
          rw [hup.1, hup.2] at HAd
          clear E7 hup hfn hwf hjl v1 v3
          generalize (P2.getD j fw0).x = fx at *
          go_wp2_with fail
          refine (HAd.out _ A7.out).mono ?_; rintro e w8 ⟨rfl, ha, ho⟩
          have A8 : Hd (AccIs w8 b3 (zS ((P2.take (j + 1)).map (·.x))) false false) := ⟨by rw [HTk.out]; exact ha⟩
          have F8 := Hd.mk (F7.out.only ho rfl)
          clear ha ho
          go_wp2_with fail
          exact ⟨⟨j + 1, by omega, by go_num, F8, A8⟩, by simp [intOf]; omega⟩
        · obtain rfl : R2 = j := by omega
          have hge : ¬ (R2 : Int) < R2 := by omega
          have E8 := Hd.mk (E6.out.only F7.out B3.out.1 B3.out.2)
          have A8 : Hd (AccIs wr b3 (paidZ L en) false false) := ⟨by
            have := A7.out
            rw [List.take_of_length_le (by rw [HR2.out]; exact Nat.le_refl _), E6.out.pz] at this
            exact this⟩
          have PL := Hd.mk (HPw.out _ E8.out.bl)
          have hN60 : N ≤ 60 := by have := of_decide_eq_false d60; omega
          clear hjl F7 A7 E6
          go_wp2_with fail
          go_loop [27, 29] (fun mv iv => ∃ j : Nat, j ≤ N ∧ iv = .int .i64 j ∧ mv = .int .i64 ((mineF (l.take j) cur).length : Nat)) (fun _ iv => N - (intOf iv).toNat)
          case atStart => exact ⟨0, Nat.zero_le _, rfl, by simp [mineF]⟩
          case round =>
            obtain ⟨j, hj, rfl, rfl⟩ := hrel
            by_cases hjl : j < N
            · have hj' : (j : Int) < N := by omega
              have j0 : (0 : Int) ≤ j := by omega
              obtain ⟨bb, oo, rfl, v1, v2, v3⟩ := PL.out.cell j (by rw [HN.out]; exact hjl)
              have e1 := mineF_take l cur j (by rw [HN.out]; exact hjl)
              have hml : (mineF (l.take j) cur).length ≤ 60 := by
                have h1 := mineF_len (l.take j) cur
                rw [List.length_take] at h1
                omega
              generalize (l.getD j fw0) = f at *
              by_cases hc : f.c = cur
              · have dc : (cur == cur) = true := by simp
                rw [hc] at v3
                rw [if_pos hc] at e1
                have e2 : (mineF (l.take (j + 1)) cur).length = (mineF (l.take j) cur).length + 1 := by rw [e1]; simp
                have HE2 := Hd.mk e2
                clear hc e1 e2 hjl v1 v2
                generalize (mineF (l.take j) cur).length = q2 at *
                go_wp2_with fail
                exact ⟨⟨j + 1, by omega, by go_num, by rw [HE2.out]; go_num⟩, by simp [intOf]; omega⟩
              · have dc : (f.c == cur) = false := by simp [hc]
                rw [if_neg hc] at e1
                have HE2 := Hd.mk e1
                clear hc e1 hjl v1 v2
                generalize hq3 : (mineF (l.take j) cur).length = q2 at *
                have HQ3 := Hd.mk hq3
                generalize f.c = fc at *
                clear hq3
                go_wp2_with fail
                exact ⟨⟨j + 1, by omega, by go_num, by rw [HE2.out, HQ3.out]⟩, by simp [intOf]; omega⟩
            · obtain rfl : N = j := by omega
              have hge2 : ¬ (N : Int) < N := by omega
              have eM : mineF (l.take N) cur = L := by rw [List.take_of_length_le (by rw [HN.out]; exact Nat.le_refl _)]; exact HLL.out
              rw [eM]
              have HB : Hd (AccB (paidZ L en)) := ⟨by
                have := bd_xs (paidF L en) (E8.out.lk.filter _).ok.wf
                exact this.accB (big_150 (Nat.le_trans (List.length_filter_le _ _) (Nat.le_trans E8.out.l60 (by decide))))⟩
              clear hjl eM
              go_wp2_with fail
              refine (lifeCash_any _ E8.out.la HB.out).mono ?_; rintro e w9 ⟨rfl, hb⟩
              have E9 := Hd.mk (E8.out.below hb)
              have A9 := Hd.mk (A8.out.below hb)
              clear hb E8 A8 PL
              go_wp2_with fail
              refine (lifeCash_any _ E9.out.lb HB.out).mono ?_; rintro e w10 ⟨rfl, hb⟩
              have E10 := Hd.mk (E9.out.below hb)
              have A10 := Hd.mk (A9.out.below hb)
              clear hb E9 A9
              have HVl := Hd.mk fun (w' : World) h => value_any b3 (paidZ L en) false false w' h HB.out
              have hTl : toldV (paidZ L en) = if fin (overA (paidZ L en) false false 1) then (overA (paidZ L en) false false 1, 0) else (0, 91) := rfl
              have hov := Hd.mk (overA_facts (paidZ L en))
              have HLf := Hd.mk fun (w' : World) h => lifeLeft_any (base := w.heap.size) (b := b1) (L := stayF L en) (z := paidZ L en) (cur := cur) (day := en) (ba := ba1) (a := a1) (c := c1) w' h (E10.out.lk.filter _).ok
              unfold LeftRet at HLf
              have HLr := Hd.mk fun (w' : World) h => lifeLeft_any (base := H1) (b := b2) (L := stayF L en) (z := paidZ L en) (cur := cur) (day := en) (ba := ba2) (a := a2) (c := c2) w' h (E10.out.lk.filter _).ok
              unfold LeftRet at HLr
              have HPa := Hd.mk fun (w' : World) h => lifePass_any en w' h ((E10.out.lk.filter _).ok) ((E10.out.lk.filter _).fn) (L := stayF L en) (base := w.heap.size) (b := b1) (z := paidZ L en) (cur := cur) (day := en) (ba := ba1) (a := a1) (c := c1)
              have hst60 : (stayF L en).length ≤ 60 := Nat.le_trans (List.length_filter_le _ _) E10.out.l60
              have hpn : paidF (stayF L en) en = [] := (stay_all (L := stayF L en) (n := en) (fun f hf => by
                unfold stayF at hf
                have := (List.mem_filter.1 hf).2
                simpa using this)).2
              have hss : stayF (stayF L en) en = stayF L en := stay_stay (Int.le_refl _)
              have hcnt : R2 + (stayF L en).length = L.length := by rw [← HR2.out, E10.out.pl]; exact paid_count L en
              have hpl : R2 = (paidF L en).length := by rw [← HR2.out]; exact E10.out.pl
              have q1 : ((R2 : Int) != ((paidF L en).length : Int)) = false := by rw [bne_eq_false_iff_eq]; omega
              have q2 : ((R2 : Int) + ((stayF L en).length : Int) != (L.length : Int)) = false := by rw [bne_eq_false_iff_eq]; omega
              have HOf := Hd.mk fun a' c' (w' : World) (h : Flws w' a' (stayF L en)) => of14_any a' (stayF L en) c' w' h hst60
              unfold OfFl at HOf
              have HSm := Hd.mk fun a' c' a'' c'' (w' : World) h1 h2 => same14_any a' (stayF L en) c' a'' c'' w' h1 h2
              have HPN := Hd.mk hpn
              have HSS := Hd.mk hss
              have hR60 : R2 ≤ 60 := hP60
              clear hcnt hpl hpn hss HB
              generalize hsl : (stayF L en).length = sl at *
              have HSl := Hd.mk hsl
              generalize (paidF L en).length = pl2 at *
              generalize L.length = LL at *
              generalize overA (paidZ L en) false false 1 = R at *
              generalize (toldV (paidZ L en)) = TV at *
              clear hsl
              cases hfR : fin R
              · skip
                rw [hfR] at hTl
                simp only [Bool.false_eq_true, if_false, if_true] at hTl
                subst hTl
                dsimp only
                clear hfR
                go_wp2_with fail
                refine (apiBits_any _ _).mono ?_; rintro e w11 ⟨rfl, rfl⟩
                go_wp2_with fail
                refine (apiBits_any _ _).mono ?_; rintro e w11 ⟨rfl, rfl⟩
                go_wp2_with fail
                refine (HLf.out _ E10.out.la).mono ?_; rintro e w12 ⟨a12, c12, rfl, _, hb⟩
                have E12 := Hd.mk (E10.out.below hb)
                clear hb E10
                go_wp2_with fail
                refine (HPa.out _ E12.out.la).mono ?_
                rintro e w13 (⟨h, _⟩ | ⟨_, h, _⟩ | ⟨_, _, ⟨az, rfl, _⟩, hLz, hfz⟩)
                · rw [HD.out] at h; cases h
                · exfalso; omega
                have LA13 : Hd (Led w13 w.heap.size b1 (stayF L en) (paidZ L en) cur en ba1 a1 c1) := ⟨by
                  have hz0 : paidZ (stayF L en) en = 0 := by unfold paidZ; rw [HPN.out]; rfl
                  rw [HSS.out, hz0, Int.add_zero] at hLz
                  exact hLz⟩
                have LB13 := Hd.mk (E12.out.lb.frm hfz fun k s => E12.out.ib.not (Or.inl (E12.out.ia.S k s).2))
                have BL13 := Hd.mk (hfz.to_below E12.out.bl (fun k s => (E12.out.ia.S k s).1) E12.out.bl.size)
                rw [HPN.out]
                clear hLz hfz E12
                rw [show ([] : List Fw).length = 0 from rfl]
                go_wp2_with fail
                refine (HLf.out _ LA13.out).mono ?_; rintro e w14 ⟨a14, c14, rfl, hf14, hb⟩
                have LB14 := Hd.mk (LB13.out.below hb)
                have BL14 := Hd.mk (BL13.out.trans (hb.mono BL13.out.size))
                have F14 := Hd.mk hf14.1
                clear hb hf14 LA13 LB13 BL13
                go_wp2_with fail
                refine (HLr.out _ LB14.out).mono ?_; rintro e w15 ⟨a15, c15, rfl, hf15, hb⟩
                have BL15 := Hd.mk (BL14.out.trans (hb.mono BL14.out.size))
                have F15 := Hd.mk (F14.out.below hb)
                have G15 := Hd.mk hf15.1
                clear hb hf15 LB14 BL14 F14
                go_wp2_with fail
                refine (HOf.out _ _ _ G15.out).mono ?_; rintro e w16 ⟨a16, c16, rfl, hu, hb⟩
                have BL16 := Hd.mk (BL15.out.trans (hb.mono BL15.out.size))
                have F16 := Hd.mk (F15.out.below hb)
                have U16 := Hd.mk hu
                clear hb hu BL15 F15 G15
                go_wp2_with fail
                refine (HSm.out _ _ _ _ _ F16.out U16.out).mono ?_; rintro e w17 ⟨rfl, hb⟩
                have BL17 := Hd.mk (BL16.out.trans (hb.mono BL16.out.size))
                clear hb F16 U16 BL16
                go_wp2_with fail
                refine (awake24_any _).mono ?_; rintro e w18 ⟨rfl, hb⟩
                have BL18 := Hd.mk (BL17.out.trans (hb.mono BL17.out.size))
                clear hb
                go_wp2_with fail
                go_ret
                exact ⟨rfl, BL18.out⟩
              · skip
                rw [hfR] at hTl
                simp only [Bool.false_eq_true, if_false, if_true] at hTl
                subst hTl
                dsimp only
                have q3 : (((R : Nat) : Int) != ((R : Nat) : Int)) = false := by simp
                clear hfR
                go_wp2_with fail
                refine (apiBits_any _ _).mono ?_; rintro e w11 ⟨rfl, rfl⟩
                go_wp2_with fail
                refine (apiBits_any _ _).mono ?_; rintro e w11 ⟨rfl, rfl⟩
                go_wp2_with fail
                refine (apiBits_any _ _).mono ?_; rintro e w11 ⟨rfl, rfl⟩
                go_wp2_with fail
                refine (HVl.out _ A10.out).mono ?_; rintro e w11 ⟨rfl, hb⟩
                have E11 := Hd.mk (E10.out.below hb)
                clear hb E10 A10
                go_wp2_with fail
                refine (apiBits_any _ _).mono ?_; rintro e w11 ⟨rfl, rfl⟩
                go_wp2_with fail
                refine (HLf.out _ E11.out.la).mono ?_; rintro e w12 ⟨a12, c12, rfl, _, hb⟩
                have E12 := Hd.mk (E11.out.below hb)
                clear hb E11
                go_wp2_with fail
                refine (HPa.out _ E12.out.la).mono ?_
                rintro e w13 (⟨h, _⟩ | ⟨_, h, _⟩ | ⟨_, _, ⟨az, rfl, _⟩, hLz, hfz⟩)
                · rw [HD.out] at h; cases h
                · exfalso; omega
                have LA13 : Hd (Led w13 w.heap.size b1 (stayF L en) (paidZ L en) cur en ba1 a1 c1) := ⟨by
                  have hz0 : paidZ (stayF L en) en = 0 := by unfold paidZ; rw [HPN.out]; rfl
                  rw [HSS.out, hz0, Int.add_zero] at hLz
                  exact hLz⟩
                have LB13 := Hd.mk (E12.out.lb.frm hfz fun k s => E12.out.ib.not (Or.inl (E12.out.ia.S k s).2))
                have BL13 := Hd.mk (hfz.to_below E12.out.bl (fun k s => (E12.out.ia.S k s).1) E12.out.bl.size)
                rw [HPN.out]
                clear hLz hfz E12
                rw [show ([] : List Fw).length = 0 from rfl]
                go_wp2_with fail
                refine (HLf.out _ LA13.out).mono ?_; rintro e w14 ⟨a14, c14, rfl, hf14, hb⟩
                have LB14 := Hd.mk (LB13.out.below hb)
                have BL14 := Hd.mk (BL13.out.trans (hb.mono BL13.out.size))
                have F14 := Hd.mk hf14.1
                clear hb hf14 LA13 LB13 BL13
                go_wp2_with fail
                refine (HLr.out _ LB14.out).mono ?_; rintro e w15 ⟨a15, c15, rfl, hf15, hb⟩
                have BL15 := Hd.mk (BL14.out.trans (hb.mono BL14.out.size))
                have F15 := Hd.mk (F14.out.below hb)
                have G15 := Hd.mk hf15.1
                clear hb hf15 LB14 BL14 F14
                go_wp2_with fail
                refine (HOf.out _ _ _ G15.out).mono ?_; rintro e w16 ⟨a16, c16, rfl, hu, hb⟩
                have BL16 := Hd.mk (BL15.out.trans (hb.mono BL15.out.size))
                have F16 := Hd.mk (F15.out.below hb)
                have U16 := Hd.mk hu
                clear hb hu BL15 F15 G15
                go_wp2_with fail
                refine (HSm.out _ _ _ _ _ F16.out U16.out).mono ?_; rintro e w17 ⟨rfl, hb⟩
                have BL17 := Hd.mk (BL16.out.trans (hb.mono BL16.out.size))
                clear hb F16 U16 BL16
                go_wp2_with fail
                refine (awake24_any _).mono ?_; rintro e w18 ⟨rfl, hb⟩
                have BL18 := Hd.mk (BL17.out.trans (hb.mono BL17.out.size))
                clear hb
                go_wp2_with fail
                go_ret
                exact ⟨rfl, BL18.out⟩
    have db : decide (at_ + q > en) = false := decide_eq_false (by omega)
    go_upto_region 12 with fail
    have hge : at_ ≤ at_ + q := by omega
    have hle : at_ + q ≤ en := by omega
    clear hq hbr db
    generalize at_ + q = n at *
    clear s0 s1 cst dM2 dM' d20
    have HI := Hd.mk fun (w' : World) h => lifePass_any n w' h ((SS.out.lk.filter _).ok) ((SS.out.lk.filter _).fn) (L := stayF L at_) (base := w.heap.size) (b := b1) (z := paidZ L at_) (cur := cur) (day := at_) (ba := ba1) (a := a1) (c := c1)
    go_wp2_with fail
    refine (HI.out _ SS.out.la).mono ?_
    rintro e w3 (⟨hd, rfl, rfl⟩ | ⟨_, h, _⟩ | ⟨hd, hp, ⟨ak, rfl, hfr⟩, hL, hfm⟩)
    · have dn : decide (n > 109572) = true := by
        unfold isDy at hd
        have := of_decide_eq_false hd
        exact decide_eq_true (by omega)
      clear hd HI hge hle
      go_wp2_with fail
      refine (awake24_any _).mono ?_; rintro e w5 ⟨rfl, hb⟩
      have C5 := Hd.mk (SS.out.bl.trans (hb.mono SS.out.bl.size))
      clear hb
      go_wp2_with fail
      go_ret
      exact ⟨rfl, C5.out⟩
    · exfalso; omega
    have hn9 : n ≤ 109572 := by rw [isDy_iff] at hd; omega
    have dn : decide (n > 109572) = false := decide_eq_false (by omega)
    have enn : (n != n) = false := by simp
    have MM := Hd.mk (SS.out.pass hge hL hfm hfr)
    have HKin := Hd.mk (paid_in (L := L) (m := at_) (n := n))
    have HBd := Hd.mk (And.intro hge (And.intro hle hn9))
    obtain ⟨kl, hkl⟩ : ∃ kl, (paidF (stayF L at_) n).length = kl := ⟨_, rfl⟩
    have HKL := Hd.mk hkl
    have h100 : P.length + (paidF (stayF L at_) n).length ≤ 100000 := by
      have h1 := SS.out.p60
      have h2 : (paidF (stayF L at_) n).length ≤ L.length := Nat.le_trans (List.length_filter_le _ _) (List.length_filter_le _ _)
      have := SS.out.l60
      omega
    have H100 := Hd.mk h100
    have hk60 : kl ≤ 100000 := by omega
    rw [hkl]
    clear hd hp hL hfm hfr HI hge hle hn9 hkl h100
    go_wp2_with fail
    refine (lifeDay_any _ MM.out.la).mono ?_; rintro e w4 ⟨rfl, rfl⟩
    go_wp2_with fail
    go_loop [21] (fun iv => ∃ j : Nat, j ≤ kl ∧ iv = .int .i64 j) (fun iv => kl - (intOf iv).toNat)
    case atStart => exact ⟨0, Nat.zero_le _, rfl⟩
    case round =>
      obtain ⟨j, hj, rfl⟩ := hrel
      by_cases hjl : j < kl
      · have hj' : (j : Int) < kl := by omega
        have j0 : (0 : Int) ≤ j := by omega
        obtain ⟨bb, oo, rfl, v1, v2, v3⟩ := MM.out.fk.cell j (by rw [HKL.out]; exact hjl)
        obtain ⟨g1, g2⟩ := HKin.out j (by rw [HKL.out]; exact hjl)
        have t1 := decide_eq_false (show ¬ ((paidF (stayF L at_) n).getD j fw0).d < at_ by omega)
        have t2 : decide (((paidF (stayF L at_) n).getD j fw0).d ≥ n) = false := decide_eq_false (by omega)
        have t3 : decide (n ≤ ((paidF (stayF L at_) n).getD j fw0).d) = false := decide_eq_false (by omega)
        clear g1 g2 v2 v3 hjl
        generalize ((paidF (stayF L at_) n).getD j fw0).d = fd at *
        go_wp2_with fail
        exact ⟨⟨j + 1, by omega, by go_num⟩, by simp [intOf]; omega⟩
      · obtain rfl : kl = j := by omega
        have hgk : ¬ (kl : Int) < kl := by omega
        clear hjl
        go_wp2_with (at_builtin; go_must (refine wpList_app_flows rfl (.tmp 151) (.tmp 152) rfl H2 (.slice ap P.length cp) P rfl MM.out.ow ak (paidF (stayF L at_) n) (by rw [HKL.out]; rfl) MM.out.fk H100.out MM.out.hz ?_))
        intro P2 a5 c5 w5 hP2 ho5 hb5
        have ES := StpM.next SS.out MM.out HBd.out.1 HBd.out.2.2 HBd.out.2.1 (by rw [← hP2.out]; exact ho5) hb5
        rw [← hP2.out] at ES
        have E5 := Hd.mk ES
        clear ES ho5 hb5 hP2 MM SS
        go_wp2_with fail
        exact ⟨⟨i + 1, n, P2, a5, c5, by omega, by omega, by go_num, rfl, rfl, E5⟩, by simp [intOf]; omega⟩

end Go.Proofs.Yteikihidblcljaa

/- A ledger in memory; the walk of life's New. -/
import Derived.Test.YteikihidblcljaaZaC
import Derived.Test.YteikihidblcljaaM10
namespace Go.Proofs.Yteikihidblcljaa
open Go.RowKit
set_option linter.unusedSimpArgs false
set_option linter.unusedVariables false

/-- A block that holds a ledger's four cells. -/
def LBox (w : World) (b ba : Nat) (a : Option Addr) (n c : Nat) (cur day : Int) : Prop :=
  w.heap[b]? = some (.cells #[.pointer (some ⟨ba, 0, none⟩), .slice a n c, .int .i64 cur, .int .i64 day] 139 (0, 0))
theorem LBox.cell {w : World} {b ba : Nat} {a : Option Addr} {n c : Nat} {cur day : Int} (h : LBox w b ba a n c cur day) :
    w.cell? ⟨b, 0, none⟩ = some (.pointer (some ⟨ba, 0, none⟩)) ∧ w.cell? ⟨b, 1, none⟩ = some (.slice a n c) ∧ w.cell? ⟨b, 2, none⟩ = some (.int .i64 cur) ∧ w.cell? ⟨b, 3, none⟩ = some (.int .i64 day) := by
  unfold LBox at h
  refine ⟨?_, ?_, ?_, ?_⟩ <;> simp [World.cell?, h]
theorem LBox.frozen {w : World} {b ba : Nat} {a : Option Addr} {n c : Nat} {cur day : Int} (h : LBox w b ba a n c cur day) (o : Nat) : w.frozen? ⟨b, o, none⟩ = false := by
  unfold LBox at h
  simp [World.frozen?, h]
theorem LBox.lt {w : World} {b ba : Nat} {a : Option Addr} {n c : Nat} {cur day : Int} (h : LBox w b ba a n c cur day) : b < w.heap.size := by
  unfold LBox at h
  exact (Array.getElem?_eq_some_iff.1 h).1
theorem LBox.same {w w' : World} {b ba : Nat} {a : Option Addr} {n c : Nat} {cur day : Int} (h : LBox w b ba a n c cur day) (hb : w'.heap[b]? = w.heap[b]?) : LBox w' b ba a n c cur day := hb.trans h

/-- A ledger of the call's own: its flows that are left, its cash (an exact sum). -/
structure Led (w : World) (base b : Nat) (L : List Fw) (z : Int) (cur day : Int) (ba : Nat) (a : Option Addr) (c : Nat) : Prop where
  box : LBox w b ba a L.length c cur day
  acc : AccIs w ba z false false
  own : w.ownsRow base 74 3 (.slice a L.length c) L.length (flV L)
  bb : base ≤ b
  bba : base ≤ ba
  ne : ba ≠ b
  ng : ∀ g, (Value.slice a L.length c).ownBlock = some g → g ≠ b ∧ g ≠ ba
theorem Led.below {w w' : World} {base b : Nat} {L : List Fw} {z cur day : Int} {ba : Nat} {a : Option Addr} {c : Nat} (h : Led w base b L z cur day ba a c) (hb : Below w.heap.size w w') : Led w' base b L z cur day ba a c :=
  ⟨h.box.same (hb.block b h.box.lt), h.acc.below hb, ownsRow_below h.own hb, h.bb, h.bba, h.ne, h.ng⟩

open Classical in
/-- What is wrong with flows, a currency and a day. -/
noncomputable def lnE (l : List Fw) (cur day : Int) : Int :=
  if (chkF l).1 ≠ 0 then (chkF l).1 else if cur < 1 ∨ 8 < cur then 140 else if isDy day = false then 51 else if (∃ i, i < l.length ∧ (l.getD i fw0).c = cur ∧ (l.getD i fw0).d < day) then 240 else 0
/-- It returns a ledger, or what is wrong. -/
def LNewRet (l : List Fw) (cur day : Int) (w : World) (e : Ending) (w' : World) : Prop :=
  ((lnE l cur day = 0 ∧ ∃ b ba a c, e = .returned (.tuple #[.pointer (some ⟨b, 0, none⟩), .int .i64 0]) ∧ Led w' w.heap.size b (mineF l cur) 0 cur day ba a c) ∨ (lnE l cur day ≠ 0 ∧ e = .returned (.tuple #[.pointer none, .int .i64 (lnE l cur day)]))) ∧ Below w.heap.size w w'
theorem lbox_new (w : World) (ba : Nat) (a : Option Addr) (n c : Nat) (cur day : Int) : ∃ W, (w.alloc (.cells #[.pointer (some ⟨ba, 0, none⟩), .slice a n c, .int .i64 cur, .int .i64 day] 139)) = W ∧ LBox W w.heap.size ba a n c cur day ∧ Below w.heap.size w W := by
  refine ⟨_, rfl, ?_, (Below.refl _ _).alloc (Nat.le_refl _) _⟩
  unfold LBox World.alloc; simp [Array.getElem?_push]

set_option maxHeartbeats 3200000 in
set_option maxRecDepth 100000 in
theorem lifeNew_any (ad : Option Addr) (l : List Fw) (c : Nat) (cur day : Int) (w : World) (hl : Flws w ad l) :
    Calls Try.prog 33 #[.slice ad l.length c, .int .i64 cur, .int .i64 day] w (LNewRet l cur day w) := by
  have HC := Hd.mk (flowCheck_any ad l c w hl)
  have HI := Hd.mk (lifeIs_any day)
  have HOw := Hd.mk fun w' (h : Below w.heap.size w w') (h4 : l.length ≤ 4096) => lifeOwn_any ad l c cur day w' (hl.below h) h4
  have HOK := Hd.mk (fun h : (chkF l).1 = 0 => (chkF_ok h).1)
  have HV : Hd (lnE l cur day = if (chkF l).1 ≠ 0 then (chkF l).1 else if cur < 1 ∨ 8 < cur then 140 else if isDy day = false then 51 else if (∃ i, i < l.length ∧ (l.getD i fw0).c = cur ∧ (l.getD i fw0).d < day) then 240 else 0) := ⟨by unfold lnE; rfl⟩
  unfold ChkRet at HC
  unfold LOwnRet at HOw
  have HR : Hd (∀ e w', ((lnE l cur day = 0 ∧ ∃ b ba a c, e = .returned (.tuple #[.pointer (some ⟨b, 0, none⟩), .int .i64 0]) ∧ Led w' w.heap.size b (mineF l cur) 0 cur day ba a c) ∨ (lnE l cur day ≠ 0 ∧ e = .returned (.tuple #[.pointer none, .int .i64 (lnE l cur day)]))) ∧ Below w.heap.size w w' → LNewRet l cur day w e w') := ⟨fun e w' h => h⟩
  generalize lnE l cur day = V at *
  generalize hn : l.length = n at *
  generalize hE : (chkF l).1 = E at *
  generalize (((chkF l).2 : Nat) : Int) = J at *
  clear hl hn hE
  by_cases h1 : E = 0
  rotate_left
  · have hv := HV.out
    rw [if_pos h1] at hv
    subst hv
    have d1 : (V != 0) = true := by rw [bne_iff_ne]; exact h1
    have HE := Hd.mk h1
    clear h1
    go_enter Try.func33, Try.ntmps33
    go_wp2_with fail
    refine HC.out.mono ?_; rintro e w1 ⟨rfl, hb⟩
    have HB := Hd.mk hb
    clear hb
    go_wp2_with fail
    exact bodyPost_ret (v := .tuple #[.pointer none, .int .i64 V]) (by simp [results, Try.results33, go_sem]) rfl (HR.out _ _ ⟨Or.inr ⟨HE.out, rfl⟩, HB.out⟩)
  subst h1
  have h4k := HOK.out rfl
  have HV2 : Hd (V = if cur < 1 ∨ 8 < cur then 140 else if isDy day = false then 51 else if (∃ i, i < n ∧ (l.getD i fw0).c = cur ∧ (l.getD i fw0).d < day) then 240 else 0) := ⟨by rw [HV.out, if_neg (by decide)]⟩
  have H4 := Hd.mk h4k
  clear HV HOK h4k
  by_cases h2 : cur < 1
  · have hv := HV2.out
    rw [if_pos (Or.inl h2)] at hv
    subst hv
    have d2 := decide_eq_true h2
    clear h2
    go_enter Try.func33, Try.ntmps33
    go_wp2_with fail
    refine HC.out.mono ?_; rintro e w1 ⟨rfl, hb⟩
    have HB := Hd.mk hb
    clear hb
    go_wp2_with fail
    exact bodyPost_ret (v := .tuple #[.pointer none, .int .i64 140]) (by simp [results, Try.results33, go_sem]) rfl (HR.out _ _ ⟨Or.inr ⟨by decide, rfl⟩, HB.out⟩)
  have d2 := decide_eq_false h2
  by_cases h3 : 8 < cur
  · have hv := HV2.out
    rw [if_pos (Or.inr h3)] at hv
    subst hv
    have d3 : decide (cur > 8) = true := decide_eq_true h3
    clear h2 h3
    go_enter Try.func33, Try.ntmps33
    go_wp2_with fail
    refine HC.out.mono ?_; rintro e w1 ⟨rfl, hb⟩
    have HB := Hd.mk hb
    clear hb
    go_wp2_with fail
    exact bodyPost_ret (v := .tuple #[.pointer none, .int .i64 140]) (by simp [results, Try.results33, go_sem]) rfl (HR.out _ _ ⟨Or.inr ⟨by decide, rfl⟩, HB.out⟩)
  have d3 : decide (cur > 8) = false := decide_eq_false h3
  have HV3 : Hd (V = if isDy day = false then 51 else if (∃ i, i < n ∧ (l.getD i fw0).c = cur ∧ (l.getD i fw0).d < day) then 240 else 0) := ⟨by rw [HV2.out, if_neg (by omega)]⟩
  clear HV2 h2 h3
  cases h5 : isDy day
  · have hv := HV3.out
    rw [if_pos h5] at hv
    subst hv
    rw [h5] at HI
    clear h5
    go_enter Try.func33, Try.ntmps33
    go_wp2_with fail
    refine HC.out.mono ?_; rintro e w1 ⟨rfl, hb⟩
    have HB := Hd.mk hb
    clear hb
    go_wp2_with fail
    refine (HI.out _).mono ?_; rintro e w2 ⟨rfl, rfl⟩
    go_wp2_with fail
    exact bodyPost_ret (v := .tuple #[.pointer none, .int .i64 51]) (by simp [results, Try.results33, go_sem]) rfl (HR.out _ _ ⟨Or.inr ⟨by decide, rfl⟩, HB.out⟩)
  have HV4 : Hd (V = if (∃ i, i < n ∧ (l.getD i fw0).c = cur ∧ (l.getD i fw0).d < day) then 240 else 0) := ⟨by rw [HV3.out, if_neg (by rw [h5]; decide)]⟩
  rw [h5] at HI
  clear h5 HV3
  go_enter Try.func33, Try.ntmps33
  go_wp2_with fail
  refine HC.out.mono ?_; rintro e w1 ⟨rfl, hb⟩
  have HB := Hd.mk hb
  clear hb
  go_wp2_with fail
  refine (HI.out _).mono ?_; rintro e w2 ⟨rfl, rfl⟩
  go_wp2_with fail
  refine (HOw.out _ HB.out H4.out).mono ?_
  rintro e w2 ⟨⟨hall, a2, c2, rfl, ho⟩ | ⟨hex, rfl⟩, hb⟩
  rotate_left
  · have hv := HV4.out
    rw [if_pos hex] at hv
    subst hv
    have HB2 := Hd.mk (HB.out.trans (hb.mono HB.out.size))
    clear hex hb
    go_wp2_with fail
    exact bodyPost_ret (v := .tuple #[.pointer none, .int .i64 240]) (by simp [results, Try.results33, go_sem]) rfl (HR.out _ _ ⟨Or.inr ⟨by decide, rfl⟩, HB2.out⟩)
  have hv := HV4.out
  rw [if_neg (fun ⟨i, h1, h2, h3⟩ => by have := hall i h1 h2; omega)] at hv
  subst hv
  have HB2 := Hd.mk (HB.out.trans (hb.mono HB.out.size))
  have HO := Hd.mk (ho.mono HB.out.size)
  clear hall ho hb HV4
  go_wp2_with fail
  refine (new_any _).mono ?_; rintro e w3 ⟨ba, rfl, hba, hacc, hb⟩
  have HB3 := Hd.mk (HB2.out.trans (hb.mono HB2.out.size))
  have HO3 : Hd (w3.ownsRow w.heap.size 74 3 (.slice a2 (mineF l cur).length c2) (mineF l cur).length (flV (mineF l cur))) := ⟨ownsRow_below HO.out hb⟩
  obtain ⟨W, hW, hbx, hb4⟩ := lbox_new w3 ba a2 (mineF l cur).length c2 cur day
  have HWW := Hd.mk hW
  have hlt : ba < w3.heap.size := hacc.lt
  have HLed : Hd (Led W w.heap.size w3.heap.size (mineF l cur) 0 cur day ba a2 c2) := ⟨⟨hbx, hacc.below hb4, ownsRow_below HO3.out hb4, HB3.out.size, by have := HB2.out.size; omega, by omega, fun g hg => by
    have h1 := (HO.out.lt g hg).2
    exact ⟨by have := HB3.out.size; have := hb.size; omega, by omega⟩⟩⟩
  have HB4 := Hd.mk (HB3.out.trans (hb4.mono HB3.out.size))
  clear hba hacc hb hW hbx hb4 hlt HO HO3
  generalize (mineF l cur).length = N at *
  go_wp2_with fail
  (try rw [HWW.out])
  exact bodyPost_ret (v := .tuple #[.pointer (some ⟨w3.heap.size, 0, none⟩), .int .i64 0]) (by simp [results, Try.results33, go_sem]) rfl (HR.out _ _ ⟨Or.inl ⟨by first | rfl | trivial, _, ba, a2, c2, rfl, HLed.out⟩, HB4.out⟩)

end Go.Proofs.Yteikihidblcljaa

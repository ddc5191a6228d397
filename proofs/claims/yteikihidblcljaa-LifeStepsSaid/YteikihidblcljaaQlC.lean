/- What is right about a ledger's flows; the walk of tenorlaw24's awake. -/
import Derived.Test.YteikihidblcljaaQkC
import Derived.Test.YteikihidblcljaaZhC
import Derived.Test.YteikihidblcljaaM12
namespace Go.Proofs.Yteikihidblcljaa
open Go.RowKit
set_option linter.unusedSimpArgs false
set_option linter.unusedVariables false

/-- What is right about a ledger's flows. -/
structure LOk (L : List Fw) : Prop where
  ok : FwsOk L
  fn : ∀ k, k < L.length → fin (L.getD k fw0).x = true
theorem LOk.filter {L : List Fw} (h : LOk L) (p : Fw → Bool) : LOk (L.filter p) := ⟨h.ok.filter p, fun k hk => by
  have e : (L.filter p).getD k fw0 ∈ L := by
    rw [getD_F hk]
    exact (List.mem_filter.1 (List.getElem_mem hk)).1
  exact (all_F fun f => fin f.x = true).1 h.fn _ e⟩
theorem badF_fin {f : Fw} (h : badF f = 0) : 0 ≤ f.d ∧ f.d ≤ 109572 ∧ fin f.x = true ∧ okCy f.c = true := by
  unfold badF at h
  repeat' split at h
  all_goals first
    | (exfalso; omega)
    | skip
  rename_i h1 h2 h3
  exact ⟨by omega, by omega, by simpa using h2, by simpa using h3⟩
theorem chkF_LOk {w : World} {ad : Option Addr} {l : List Fw} (hl : Flws w ad l) (h : (chkF l).1 = 0) : LOk l :=
  ⟨⟨hl.wf, hl.rg, (chkF_ok h).1⟩, fun k hk => (badF_fin ((chkF_ok h).2 k hk)).2.2.1⟩
theorem lnE_ok {l : List Fw} {cur day : Int} (h : lnE l cur day = 0) : (chkF l).1 = 0 ∧ 1 ≤ cur ∧ cur ≤ 8 ∧ isDy day = true ∧ ∀ i, i < l.length → (l.getD i fw0).c = cur → day ≤ (l.getD i fw0).d := by
  classical
  unfold lnE at h
  by_cases h1 : (chkF l).1 = 0
  · rw [if_neg (by omega)] at h
    by_cases h2 : cur < 1 ∨ 8 < cur
    · rw [if_pos h2] at h; omega
    rw [if_neg h2] at h
    cases h3 : isDy day
    · rw [if_pos h3] at h; omega
    rw [if_neg (by rw [h3]; decide)] at h
    by_cases h4 : ∃ i, i < l.length ∧ (l.getD i fw0).c = cur ∧ (l.getD i fw0).d < day
    · rw [if_pos h4] at h; omega
    exact ⟨h1, by omega, by omega, rfl, fun i hi hc => by
      refine Decidable.byContradiction fun hn => h4 ⟨i, hi, hc, by omega⟩⟩
  · rw [if_pos h1] at h; exact absurd h h1
theorem lnE_zero {l : List Fw} {cur day : Int} (h1 : (chkF l).1 = 0) (h2 : 1 ≤ cur ∧ cur ≤ 8) (h3 : isDy day = true) (h4 : ∀ i, i < l.length → (l.getD i fw0).c = cur → day ≤ (l.getD i fw0).d) : lnE l cur day = 0 := by
  classical
  unfold lnE
  rw [if_neg (by omega), if_neg (by omega), if_neg (by rw [h3]; decide), if_neg (fun ⟨i, a, b, c⟩ => by have := h4 i a b; omega)]
theorem lnE_LOk {w : World} {ad : Option Addr} {l : List Fw} {cur day : Int} (hl : Flws w ad l) (h : lnE l cur day = 0) : LOk (mineF l cur) := (chkF_LOk hl (lnE_ok h).1).filter _
theorem xs_getD (L : List Fw) (h : ∀ k, F64 (L.getD k fw0).x) : ∀ i, F64 ((L.map (·.x)).getD i 0) := fun i => by
  rw [List.getD_eq_getElem?_getD, List.getElem?_map]
  have := h i
  rw [List.getD_eq_getElem?_getD] at this
  cases hq : L[i]? with
  | none => exact ⟨by show 0 < 18446744073709551616; decide⟩
  | some v => rw [hq] at this; exact this
theorem bd_xs (L : List Fw) (h : ∀ k, F64 (L.getD k fw0).x) : Bd L.length (zS (L.map (·.x))) := by
  have := zS_bd (L.map (·.x)) (xs_getD L h)
  rwa [List.length_map] at this
theorem bd_mono {a b : Nat} {z : Int} (h : Bd a z) (hab : a ≤ b) : Bd b z := ⟨Nat.le_trans h.le (Nat.mul_le_mul_right _ hab)⟩
theorem big_150 {k : Nat} (h : k ≤ 1000000000) : k ≤ 2 ^ 150 := Nat.le_trans h (Nat.le_trans (show 1000000000 ≤ 2 ^ 30 by decide) (Nat.pow_le_pow_right (by decide) (by decide)))
/-- Blocks of the call's own alone have changed. -/
theorem Frm.to_below {S : Nat → Prop} {B : Nat} {w0 w w' : World} (h : Frm S w w') (hb : Below B w0 w) (hS : ∀ k, S k → B ≤ k) (hB : B ≤ w.heap.size) : Below B w0 w' :=
  hb.trans ⟨h.bel.os, h.bel.tape, h.bel.output, h.bel.size, fun k hk => h.block k (Nat.lt_of_lt_of_le hk hB) fun s => by have := hS k s; omega⟩
theorem Led.frm_ge {w : World} {base b : Nat} {L : List Fw} {z cur day : Int} {ba : Nat} {a : Option Addr} {c : Nat} (h : Led w base b L z cur day ba a c) : ∀ k, (k = b ∨ k = ba ∨ (Value.slice a L.length c).ownBlock = some k) → base ≤ k := by
  rintro k (rfl | rfl | e)
  · exact h.bb
  · exact h.bba
  · exact (h.own.lt k e).1

theorem Led.mono_base {w : World} {base base' b : Nat} {L : List Fw} {z cur day : Int} {ba : Nat} {a : Option Addr} {c : Nat} (h : Led w base b L z cur day ba a c) (hb : base' ≤ base) : Led w base' b L z cur day ba a c :=
  ⟨h.box, h.acc, h.own.mono hb, Nat.le_trans hb h.bb, Nat.le_trans hb h.bba, h.ne, h.ng⟩
/-- The flows of awake. -/
def awF24 : List Fw := [⟨10, 4616189618054758400, 1⟩, ⟨20, 4620693217682128896, 1⟩, ⟨10, 4607182418800017408, 2⟩]
theorem awF24_F64 : ∀ k, F64 (awF24.getD k fw0).x := fun k => by
  match k with
  | 0 => exact ⟨by decide⟩
  | 1 => exact ⟨by decide⟩
  | 2 => exact ⟨by decide⟩
  | (k + 3) => exact ⟨by simp [awF24, fw0]⟩
theorem aw24_flws (w : World) : Flws (w.alloc (.cells #[.int .i64 10, .float .f64 4616189618054758400, .int .i64 1, .int .i64 20, .float .f64 4620693217682128896, .int .i64 1, .int .i64 10, .float .f64 4607182418800017408, .int .i64 2] 74)) (some ⟨w.heap.size, 0, none⟩) awF24 where
  cell := fun k hk => by
    have : k = 0 ∨ k = 1 ∨ k = 2 := by have : awF24.length = 3 := rfl; omega
    refine ⟨w.heap.size, 0, rfl, ?_⟩
    rcases this with rfl | rfl | rfl
    · refine ⟨?_, ?_, ?_⟩ <;> (unfold World.alloc; simp [World.cell?, Array.getElem?_push, awF24])
    · refine ⟨?_, ?_, ?_⟩ <;> (unfold World.alloc; simp [World.cell?, Array.getElem?_push, awF24])
    · refine ⟨?_, ?_, ?_⟩ <;> (unfold World.alloc; simp [World.cell?, Array.getElem?_push, awF24])
  wf := awF24_F64
  rg := fun k => by
    match k with
    | 0 => decide
    | 1 => decide
    | 2 => decide
    | (k + 3) => simp [awF24, fw0]
  len := by decide
theorem aw24_ln : lnE awF24 1 5 = 0 := lnE_zero (by decide +kernel) (by decide) (by decide +kernel) (fun i hi hc => by
  have : i = 0 ∨ i = 1 ∨ i = 2 := by have : awF24.length = 3 := rfl; omega
  rcases this with rfl | rfl | rfl <;> decide)
theorem aw24_mine : mineF awF24 1 = [⟨10, 4616189618054758400, 1⟩, ⟨20, 4620693217682128896, 1⟩] := rfl
theorem aw24_paid : paidF (mineF awF24 1) 11 = [⟨10, 4616189618054758400, 1⟩] ∧ stayF (mineF awF24 1) 11 = [⟨20, 4620693217682128896, 1⟩] := ⟨rfl, rfl⟩
theorem aw24_cash : toldV (0 + paidZ (mineF awF24 1) 11) = (4616189618054758400, 0) := by
  unfold paidZ
  rw [aw24_paid.1]
  decide +kernel
def awD24 : List Int := [100, 200]
def awG24 : List Nat := [4602678819172646912, 4598175219545276416]
theorem aw24_tbl (w : World) : ∃ W, (w.alloc (.cells #[.int .i64 100, .int .i64 200] 3)).alloc (.cells #[.float .f64 4602678819172646912, .float .f64 4598175219545276416] 28) = W ∧
    Tbl W (some ⟨w.heap.size, 0, none⟩) awD24 (some ⟨w.heap.size + 1, 0, none⟩) awG24 ∧ Below w.heap.size w W := by
  have hi := ins_new w awD24 3 (getD_ins (P := fun x => -9223372036854775808 ≤ x ∧ x ≤ 9223372036854775807) (fun x hx => by simp [awD24] at hx; omega) (by decide)) (by decide)
  have hf := fls_new (w.alloc (.cells #[.int .i64 100, .int .i64 200] 3)) awG24 28 (getD_nat (P := F64) (fun x hx => by simp [awG24] at hx; rcases hx with rfl | rfl <;> exact ⟨by decide⟩) ⟨by decide⟩) (by decide)
  have e : (w.alloc (.cells #[.int .i64 100, .int .i64 200] 3)).heap.size = w.heap.size + 1 := by simp
  rw [e] at hf
  exact ⟨_, rfl, ⟨hi.belowK ((Below.refl _ _).alloc (Nat.le_refl _) _), hf⟩, ((Below.refl _ _).alloc (Nat.le_refl _) _).alloc (by simp) _⟩
theorem aw24_roll : rollE 0 2 awD24 awG24 100 = 0 ∧ kR awD24 100 = 1 ∧ (rollF awD24 awG24 100 (rollX 0 2 awD24 awG24 100)).getD 0 0 = 4602678819172646912 := by
  have hx : rollX 0 2 awD24 awG24 100 = 4602678819172646912 := by decide +kernel
  have hc : chkU 0 2 awD24 awG24 = 0 := by decide +kernel
  have hl : lastT awD24 = 200 := by decide
  refine ⟨?_, by decide +kernel, by rw [hx]; decide +kernel⟩
  classical
  unfold rollE
  rw [if_neg (by rw [hc]; decide), if_neg (by rw [hl]; decide), hx, if_pos]
  intro i hi hk
  have : i = 0 ∨ i = 1 := by have : awD24.length = 2 := rfl; omega
  rcases this with rfl | rfl <;> decide +kernel

end Go.Proofs.Yteikihidblcljaa

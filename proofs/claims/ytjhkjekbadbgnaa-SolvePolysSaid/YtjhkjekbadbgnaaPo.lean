/- The walk of solve.Poly. -/
import Derived.Test.YtjhkjekbadbgnaaRp
import Derived.Test.YtjhkjekbadbgnaaHo
import Derived.WalkSmall
namespace Go.Proofs.Ytjhkjekbadbgnaa
open Go.RowKit

theorem Fls.below {w w' : World} {a : Option Addr} {l : List Nat} (h : Fls w a l) (hb : ∀ b o v, w.cell? ⟨b, o, none⟩ = some v → w'.cell? ⟨b, o, none⟩ = some v) : Fls w' a l :=
  ⟨h.nil, fun b o v e i hi => ⟨(h.cell b o v e i hi).1, hb _ _ _ (h.cell b o v e i hi).2⟩, h.wf, h.len⟩

theorem cell_of_below {B : Nat} {w w' : World} (h : Below B w w') (hB : w.heap.size ≤ B) {b o : Nat} {v : Value} (hc : w.cell? ⟨b, o, none⟩ = some v) : w'.cell? ⟨b, o, none⟩ = some v := by
  rw [h.cell (p := ⟨b, o, none⟩) (Nat.lt_of_lt_of_le (World.block_lt_of_cell? _ _ hc) hB), hc]

theorem enter_of {P : Program} {f : FuncId} {fn : Func} {c : Code} (hf : P.funcs[f]? = some fn) (hname : (fn.name == "runtime.NumGoroutine") = false) (hb : fn.body = some c) (args : Array Value) (w : World) :
    (callFunc f args).run P w = .ok (.enter f args) w := by
  have h1 : fn.name ≠ "runtime.NumGoroutine" := by simpa using hname
  simp [callFunc, hf, h1, hb]

set_option maxHeartbeats 800000 in
theorem poly1_any (a : Option Addr) (l : List Nat) (c x bp : Nat) (hx : F64 x) (w : World) (hl : Fls w a l) (hc : w.cell? ⟨bp, 0, none⟩ = some (.slice a l.length c)) :
    Calls Try.prog 37 #[.float .f64 x, .pointer (some ⟨bp, 0, none⟩)] w (FRet (horn (l.map cn) (cn x)) w) := by
  go_enter Try.func37, Try.ntmps37
  go_wp2_with fail
  refine (horner_any a l c x hx _ hl).mono ?_
  rintro e w' ⟨r, n, rfl, hr, hcr, rfl⟩
  have HC := Hd.mk hcr
  clear hcr
  go_wp2_with fail
  go_ret
  exact ⟨r, n, rfl, hr, HC.out, rfl⟩

/-- The polynomial of the list l, all NaNs one. -/
def gP (l : List Nat) (x : Nat) : Nat := horn (l.map cn) (cn x)

theorem poly_fun (a : Option Addr) (l : List Nat) (c bp : Nat) (W : World) (hl : Fls W a l) (hc : W.cell? ⟨bp, 0, none⟩ = some (.slice a l.length c)) :
    Fun1 37 #[.pointer (some ⟨bp, 0, none⟩)] W.heap.size (fun _ w' => Below W.heap.size W w') (fun _ => True) (gP l) where
  enter := fun args w => enter_of Try.func37 (by kernel_rfl) rfl args w
  stable := fun _ _ _ h k => h.trans k
  calls := fun n x w hI _ _ hx _ => by
    have h1 : Fls w a l := hl.below fun b o v h => cell_of_below hI (Nat.le_refl _) h
    refine (poly1_any a l c x bp hx w h1 (cell_of_below hI (Nat.le_refl _) hc)).mono ?_
    rintro e w' ⟨r, n, rfl, hr, hcr, rfl⟩
    exact ⟨r, rfl, hr, ⟨hcr⟩, ⟨below_drewN hI n⟩, ⟨fun _ _ _ => rfl, Nat.le_refl _⟩⟩

/-- Poly's answer. -/
def PolyRet (t : Nat × Nat × Int) (w : World) (e : Ending) (w' : World) : Prop :=
  e = .returned (.tuple #[.float .f64 t.1, .int .i64 t.2.1, .int .i64 t.2.2]) ∧ Below w.heap.size w w'

theorem root_any {fid : FuncId} {caps : Array Value} {B : Nat} {I : Nat → World → Prop} {D : Nat → Prop} {g : Nat → Nat} (hf : Fun1 fid caps B I D g)
    (lo hi : Nat) (hlo : F64 lo) (hhi : F64 hi) (w : World) (hB : B ≤ w.heap.size) (hI : I 0 w)
    (hD : ∀ x, F64 x → nn x = false → rk lo ≤ rk x → rk x ≤ rk hi → D x) :
    Calls Try.prog 20 #[.func (.func fid) #[] caps, .float .f64 lo, .float .f64 hi] w (RootRet (root g lo hi) I) := by
  cases h : okEnds lo hi
  · exact root_arg hf lo hi hlo hhi w hB hI h
  · exact root_ok hf lo hi hlo hhi w hB hI h hD

set_option maxHeartbeats 800000 in
theorem poly_any (a : Option Addr) (l : List Nat) (c lo hi : Nat) (hlo : F64 lo) (hhi : F64 hi) (w : World) (hl : Fls w a l) :
    Calls Try.prog 15 #[.slice a l.length c, .float .f64 lo, .float .f64 hi] w (PolyRet (root (gP l) lo hi) w) := by
  have hmf : ∀ (fn : Fn) (first cap : Array Value) (w : World), (Instr.makeFunc fn first cap).run Try.prog w = .ok (.func fn first cap) w := fun _ _ _ _ => rfl
  have HL := Hd.mk hl
  clear hl
  go_enter Try.func15, Try.ntmps15
  go_wp2_with fail
  have hs : w.heap.size + 1 = (w.alloc (.cells #[.slice a l.length c] 22)).heap.size := by simp
  have hb : Below w.heap.size w (w.alloc (.cells #[.slice a l.length c] 22)) := (Below.refl _ _).alloc (Nat.le_refl _) _
  have h1 : (w.alloc (.cells #[.slice a l.length c] 22)).cell? ⟨w.heap.size, 0, none⟩ = some (.slice a l.length c) := by go_simp
  have h2 : Fls (w.alloc (.cells #[.slice a l.length c] 22)) a l := HL.out.below fun b o v h => cell_of_below hb (Nat.le_refl _) h
  generalize (w.alloc (.cells #[.slice a l.length c] 22)) = W at *
  refine (root_any (poly_fun a l c w.heap.size W h2 h1) lo hi hlo hhi W (Nat.le_refl _) (Below.refl _ _) (fun _ _ _ _ _ => trivial)).mono ?_
  rintro e w1 ⟨rfl, hb1⟩
  have hb2 := hb.trans (hb1.mono (by omega))
  clear h1 h2 hb hb1 hs
  obtain ⟨t, ht⟩ : ∃ t, root (gP l) lo hi = t := ⟨_, rfl⟩
  rw [ht]
  have HT := Hd.mk ht
  clear ht
  obtain ⟨t1, t2, t3⟩ := t
  go_wp2_with fail
  go_ret3
  exact ⟨by rw [HT.out]; rfl, hb2⟩

end Go.Proofs.Ytjhkjekbadbgnaa

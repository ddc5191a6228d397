/- The walk of solve.Root, whatever the function is. -/
import Derived.Test.YtjhkjekbadbgnaaIe
import Derived.Test.YtjhkjekbadbgnaaFr
import Derived.Test.YtjhkjekbadbgnaaBi
import Derived.BigQuiet
import Derived.Deep.LoopGhost
namespace Go.Proofs.Ytjhkjekbadbgnaa
open Go.RowKit

/-- The blocks from B on are as they were. -/
structure Kp (B : Nat) (w w' : World) : Prop where
  block : ∀ b, B ≤ b → b < w.heap.size → w'.heap[b]? = w.heap[b]?
  size : w.heap.size ≤ w'.heap.size

theorem Kp.cell {B : Nat} {w w' : World} (h : Kp B w w') {b o : Nat} (hb : B ≤ b) (hs : b < w.heap.size) : w'.cell? ⟨b, o, none⟩ = w.cell? ⟨b, o, none⟩ := World.cell?_of_block (w := w) (h.block b hb hs)
theorem Kp.frozen {B : Nat} {w w' : World} (h : Kp B w w') {b o : Nat} (hb : B ≤ b) (hs : b < w.heap.size) : w'.frozen? ⟨b, o, none⟩ = w.frozen? ⟨b, o, none⟩ := World.frozen?_of_block (w := w) (h.block b hb hs)

/-- A function value that answers g (all NaNs one) where D lets in; I n: what holds of the world when it has been asked n times; B: what is its own lies below. -/
structure Fun1 (fid : FuncId) (caps : Array Value) (B : Nat) (I : Nat → World → Prop) (D : Nat → Prop) (g : Nat → Nat) : Prop where
  enter : ∀ args w, (callFunc fid args).run Try.prog w = .ok (.enter fid args) w
  stable : ∀ n w w', I n w → Below B w w' → I n w'
  calls : ∀ n x w, I n w → n ≤ 1000 → B ≤ w.heap.size → F64 x → D x → Calls Try.prog fid (#[.float .f64 x] ++ caps) w fun e w' => ∃ r, e = .returned (.float .f64 r) ∧ F64 r ∧ Hd (cn r = g x) ∧ Hd (I (n + 1) w') ∧ Kp B w w'

set_option maxHeartbeats 800000 in
theorem ask_any {fid : FuncId} {caps : Array Value} {B : Nat} {I : Nat → World → Prop} {D : Nat → Prop} {g : Nat → Nat} (hf : Fun1 fid caps B I D g)
    (n : Nat) (x : Nat) (b1 b2 : Nat) (w : World) (hI : I n w) (hx : F64 x) (hD : D x) (hb1 : B ≤ b1) (hb2 : B ≤ b2) (hne : ¬ b1 = b2) (hn : n ≤ 1000)
    (hc : w.cell? ⟨b1, 0, none⟩ = some (.int .i64 n)) (hfz : w.frozen? ⟨b1, 0, none⟩ = false) (hfc : w.cell? ⟨b2, 0, none⟩ = some (.func (.func fid) #[] caps)) :
    Calls Try.prog 41 #[.float .f64 x, .pointer (some ⟨b1, 0, none⟩), .pointer (some ⟨b2, 0, none⟩)] w fun e w' => ∃ r, e = .returned (.float .f64 r) ∧ F64 r ∧ Hd (cn r = g x) ∧ Hd (I (n + 1) w') ∧
      w'.cell? ⟨b1, 0, none⟩ = some (.int .i64 (n + 1 : Nat)) ∧ w'.frozen? ⟨b1, 0, none⟩ = false ∧ w'.cell? ⟨b2, 0, none⟩ = some (.func (.func fid) #[] caps) ∧ w.heap.size ≤ w'.heap.size := by
  have HF := Hd.mk hf
  have HI := Hd.mk hI
  have hne' : ¬ b2 = b1 := fun h => hne h.symm
  have heg := hf.enter
  clear hf hI
  go_enter Try.func41, Try.ntmps41
  go_wp2_with fail
  have hsz : b1 < w.heap.size := World.block_lt_of_cell? _ _ hc
  have hsz2 : b2 < w.heap.size := World.block_lt_of_cell? _ _ hfc
  have hI2 : I n (w.setCell ⟨b1, 0, none⟩ (.int .i64 ((n : Int) + 1))) := HF.out.stable n w _ HI.out ((Below.refl B w).setCell hb1 _)
  have hc2 : (w.setCell ⟨b1, 0, none⟩ (.int .i64 ((n : Int) + 1))).cell? ⟨b1, 0, none⟩ = some (.int .i64 ((n : Int) + 1)) := World.cell?_setCell_same w _ _ hc
  have hfz2 : (w.setCell ⟨b1, 0, none⟩ (.int .i64 ((n : Int) + 1))).frozen? ⟨b1, 0, none⟩ = false := by go_simp
  have hfc2 : (w.setCell ⟨b1, 0, none⟩ (.int .i64 ((n : Int) + 1))).cell? ⟨b2, 0, none⟩ = some (.func (.func fid) #[] caps) := by go_simp
  have hsize : (w.setCell ⟨b1, 0, none⟩ (.int .i64 ((n : Int) + 1))).heap.size = w.heap.size := by simp [World.setCell]
  refine (HF.out.calls n x _ hI2 hn (by omega) hx hD).mono ?_
  generalize (w.setCell ⟨b1, 0, none⟩ (.int .i64 ((n : Int) + 1))) = w2 at *
  clear hI2
  rintro e w' ⟨r, rfl, hr, hcr, hI', hK⟩
  have HS := Hd.mk hsize
  clear hsize
  go_wp2
  go_ret
  refine ⟨r, rfl, hr, hcr, hI', ?_, ?_, ?_, ?_⟩
  · rw [hK.cell hb1 (by rw [HS.out]; exact hsz), hc2]; rfl
  · rw [hK.frozen hb1 (by rw [HS.out]; exact hsz), hfz2]
  · rw [hK.cell hb2 (by rw [HS.out]; exact hsz2), hfc2]
  · have := hK.size; rw [HS.out] at this; exact this


/-- Root's answer. -/
def RootRet (t : Nat × Nat × Int) (I : Nat → World → Prop) (e : Ending) (w' : World) : Prop :=
  e = .returned (.tuple #[.float .f64 t.1, .int .i64 t.2.1, .int .i64 t.2.2]) ∧ I t.2.1 w'

theorem eq_nilFunc (fid : FuncId) (caps : Array Value) (w : World) : (binOp .eql 38 (.func (.func fid) #[] caps) .nilFunc).run Try.prog w = .ok (.bool false) w := by
  kernel_rfl

set_option maxHeartbeats 800000 in
theorem root_arg {fid : FuncId} {caps : Array Value} {B : Nat} {I : Nat → World → Prop} {D : Nat → Prop} {g : Nat → Nat} (hf : Fun1 fid caps B I D g)
    (lo hi : Nat) (hlo : F64 lo) (hhi : F64 hi) (w : World) (hB : B ≤ w.heap.size) (hI : I 0 w) (hok : okEnds lo hi = false) :
    Calls Try.prog 20 #[.func (.func fid) #[] caps, .float .f64 lo, .float .f64 hi] w (RootRet (root g lo hi) I) := by
  have H : Hd (root g lo hi = (0, 0, 1)) := ⟨by unfold root; rw [if_pos hok]⟩
  have HF := Hd.mk hf
  have HI := Hd.mk hI
  have heq := eq_nilFunc fid caps
  clear hf hI
  cases h1 : fin lo
  · clear hok
    go_enter Try.func20, Try.ntmps20
    go_wp2_with fail
    refine (number_any _ hlo _).mono ?_; rintro e w' ⟨rfl, rfl⟩
    go_wp2_with fail
    refine bodyPost_ret (v := .tuple #[.float .f64 0, .int .i64 0, .int .i64 1]) (by simp [results, Try.results20, go_sem]) rfl ⟨by rw [H.out]; rfl, by rw [H.out]; exact HF.out.stable 0 w _ HI.out (((Below.refl _ _).alloc hB _).alloc (by simp; omega) _)⟩
  · cases h2 : fin hi
    · clear hok
      go_enter Try.func20, Try.ntmps20
      go_wp2_with fail
      refine (number_any _ hlo _).mono ?_; rintro e w' ⟨rfl, rfl⟩
      go_wp2_with fail
      refine (number_any _ hhi _).mono ?_; rintro e w' ⟨rfl, rfl⟩
      go_wp2_with fail
      refine bodyPost_ret (v := .tuple #[.float .f64 0, .int .i64 0, .int .i64 1]) (by simp [results, Try.results20, go_sem]) rfl ⟨by rw [H.out]; rfl, by rw [H.out]; exact HF.out.stable 0 w _ HI.out (((Below.refl _ _).alloc hB _).alloc (by simp; omega) _)⟩
    · have h3 : (FloatKind.f64.format.order lo hi == some .lt) = false := by
        rw [flt lo hi hlo hhi, nn_fin lo h1, nn_fin hi h2]
        unfold okEnds at hok; rw [h1, h2] at hok; simpa using hok
      clear hok
      go_enter Try.func20, Try.ntmps20
      go_wp2_with fail
      refine (number_any _ hlo _).mono ?_; rintro e w' ⟨rfl, rfl⟩
      go_wp2_with fail
      refine (number_any _ hhi _).mono ?_; rintro e w' ⟨rfl, rfl⟩
      go_wp2_with fail
      refine bodyPost_ret (v := .tuple #[.float .f64 0, .int .i64 0, .int .i64 1]) (by simp [results, Try.results20, go_sem]) rfl ⟨by rw [H.out]; rfl, by rw [H.out]; exact HF.out.stable 0 w _ HI.out (((Below.refl _ _).alloc hB _).alloc (by simp; omega) _)⟩

end Go.Proofs.Ytjhkjekbadbgnaa

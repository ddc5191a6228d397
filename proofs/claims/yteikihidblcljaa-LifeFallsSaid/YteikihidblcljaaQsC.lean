/- The walk of LifeFalls, for any curve and day. -/
import Derived.Test.YteikihidblcljaaQqC
namespace Go.Proofs.Yteikihidblcljaa
open Go.RowKit

theorem lifeFalls_any (b kind : Int) (ax : Option Addr) (X : List Int) (cx : Nat) (ay : Option Addr) (Y : List Nat) (cy : Nat) (n : Int) (w : World) (_hb : -9223372036854775808 ≤ b ∧ b ≤ 9223372036854775807) (_hk : -9223372036854775808 ≤ kind ∧ kind ≤ 9223372036854775807) (ht : Tbl w ax X ay Y) (_hrx : Room ax X.length cx) (_hry : Room ay Y.length cy) (_hx : (Lit.int .i64 n).wf = true) :
    Calls Try.prog 6 #[.agg #[.int .i64 b, .int .i64 kind, .slice ax X.length cx, .slice ay Y.length cy], .int .i64 n] w fun e w' => e = .returned (.bool true) ∧ Below w.heap.size w w' := by
  by_cases hl : 30 < X.length ∨ 30 < Y.length
  · exact lifeFalls_long b kind ax X cx ay Y cy n w hl
  · by_cases hc : chkU b kind X Y = 0
    · exact lifeFalls_good b kind ax X cx ay Y cy n w ht (by omega) (by omega) hc
    · exact lifeFalls_bad b kind ax X cx ay Y cy n w ht (by omega) (by omega) hc

end Go.Proofs.Yteikihidblcljaa

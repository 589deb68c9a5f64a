/-
  CheckFinals answers true: the parts, joined.
-/
import Derived.Test.YtiefkpfjmbifcaaRows
import Derived.Test.YtiefkpfjmbifcaaG2
import Derived.Test.YtiefkpfjmbifcaaW16
import Derived.Test.YtiefkpfjmbifcaaNu2
namespace Go.Proofs.Ytiefkpfjmbifcaa
open Go.RowKit
theorem finals_fin (side : Int) (A : Option Addr) (ln lc : Nat) (ev : Nat → Ev) (w : World) (hx : Evs w w.heap.size A ln ev) (hln : ln ≤ 9223372036854775807) :
    Calls Try.prog 7 #[.int .i64 side, .slice A ln lc] w fun r w' => r = .returned (.bool true) ∧ Below w.heap.size w w' :=
  (finals_any nums_ok (fun w => awake_any nums_ok w) side A ln lc ev w hx hln).mono fun _ _ h => h
end Go.Proofs.Ytiefkpfjmbifcaa

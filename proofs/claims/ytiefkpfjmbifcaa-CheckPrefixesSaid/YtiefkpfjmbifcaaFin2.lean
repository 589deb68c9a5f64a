/-
  CheckPrefixes answers true: the parts, joined.
-/
import Derived.Test.YtiefkpfjmbifcaaRows
import Derived.Test.YtiefkpfjmbifcaaL4
import Derived.Test.YtiefkpfjmbifcaaNu2
import Derived.Deep.Slices
namespace Go.Proofs.Ytiefkpfjmbifcaa
open Go.RowKit Go.Deep
theorem byte_of_wf {x : Int} (h : (Lit.int .u8 x).wf = true) : 0 ≤ x ∧ x < 256 := by
  simp [Lit.wf, IntKind.min, IntKind.max, IntKind.signed, IntKind.bits] at h
  exact ⟨by omega, by omega⟩
theorem evs_cap {H : Type} {enc : TypeId × Value → H} {W : World} {a : Option Addr} {len cap : Nat} {fuel : Nat} {x : DataW H × List MemPlace}
    (h : DataW.trod enc Try.prog W 0 (fun _ => true) true fuel 22 (Value.slice a len cap).cells.toList = some x) : len ≤ cap := by
  rcases open_slice Try.underlying22 h with ⟨hcs, -⟩ | ⟨A, l, c, m, n, D, Pl, hcs, -, hl, -⟩
  · simp [Value.cells] at hcs
    omega
  · simp [Value.cells] at hcs
    omega
theorem prefixes_fin (side : Int) (A : Option Addr) (ln lc : Nat) (ev : Nat → Ev) (at_ : Int) (h0 : 0 ≤ at_) (h1 : at_ < 256) (w : World) (hx : Evs w w.heap.size A ln ev) (hln : ln ≤ 9223372036854775807) (hcap : ln ≤ lc) :
    Calls Try.prog 4 #[.int .i64 side, .slice A ln lc, .int .u8 at_] w fun r w' => r = .returned (.bool true) ∧ Below w.heap.size w w' :=
  (prefixes_any nums_ok (fun w => awake_any nums_ok w) side A ln lc ev at_ h0 h1 w hx hln hcap).mono fun _ _ h => h
end Go.Proofs.Ytiefkpfjmbifcaa

/-
  How a slice of numbers that comes in is read: cell by cell.
-/
import Derived.Test.YtipcfpepdmphcaaL8
import Derived.Test.YtipcfpepdmphcaaOpen
namespace Go.Proofs.Ytipcfpepdmphcaa
open Go.RowKit Go.ChangeShapes Go.WideShapes Go.Deep
section
variable {H : Type} {enc : TypeId × Value → H} {W : World}
theorem nums_of {a : Option Addr} {len cap : Nat} {fuel : Nat} {x : DataW H × List MemPlace}
    (h : DataW.trod enc Try.prog W 0 (fun _ => true) true fuel 40 (Value.slice a len cap).cells.toList = some x) :
    ∃ z : Nat → Int, Nums W W.heap.size a len z ∧ len ≤ 9223372036854775807 := by
  rcases open_ints Try.underlying40 Try.underlying22 (by kernel_rfl) h with ⟨hcs, -⟩ | ⟨A, l, c, zs, hcs, -, hl, hm, hz, -, hcell, hwz⟩
  · simp [Value.cells] at hcs
    obtain ⟨rfl, rfl, rfl⟩ := hcs
    exact ⟨fun _ => 0, fun k hk => absurd hk (by omega), by omega⟩
  · simp [Value.cells] at hcs
    obtain ⟨rfl, rfl, rfl⟩ := hcs
    have hz' : zs.length = cap := by simpa using hz
    refine ⟨fun k => zs.getD k 0, fun k hk => ?_, by unfold maxLen at hm; omega⟩
    have hmem : zs.getD k 0 ∈ zs := by
      rw [List.getD_eq_getElem?_getD, List.getElem?_eq_getElem (by omega)]
      simp
    have c0 := hcell k (by omega)
    obtain ⟨b, off, spot⟩ := A
    have hspot : spot = none := by
      have c' := hcell 0 (by omega)
      simpa [Addr.add] using World.cell?_spot c'
    subst hspot
    rw [add_at] at c0
    exact ⟨b, off, rfl, World.block_lt_of_cell? _ _ c0, c0, word_of_wf (hwz _ hmem)⟩
end
end Go.Proofs.Ytipcfpepdmphcaa

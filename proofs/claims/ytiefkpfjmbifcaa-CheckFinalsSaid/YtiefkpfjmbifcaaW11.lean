/-
  The least rule that an event breaks: the walk.
-/
import Derived.Test.YtiefkpfjmbifcaaW10
import Derived.BigRegion
namespace Go.Proofs.Ytiefkpfjmbifcaa
open Go.RowKit Go.Maps

noncomputable def brokenF (s : St) (e : Ev) : Int :=
  if timedF s e = false then 1 else if goesF s e = false then 2
  else if e.k = 5 ∧ e.num ≠ s.sent e.sp then 3 else if e.k = 6 ∧ s.got e.sp e.num = true then 4
  else if comesF s e = false then 5 else if standsF s e = false then 6
  else if e.k = 8 then frameF s e
  else if (e.k = 11 ∨ e.k = 10) ∧ (s.asks e.sp e.num = false ∨ s.settled e.sp e.num = true) then 9
  else if e.k = 13 ∧ movesF s e = false then 13 else 0
/-- What is known while an event is looked at. -/
def BR (M : Mem) (n : Nat) (s : St) (e : Ev) (w wx : World) : Prop := CK wx M n s ∧ EVB wx w.heap.size e ∧ PB wx (w.heap.size + 1) e.sp e.num ∧ Below w.heap.size w wx
theorem BR.below {M : Mem} {n : Nat} {s : St} {e : Ev} {w wx wy : World} (h : BR M n s e w wx) (hb : Below wx.heap.size wx wy) : BR M n s e w wy :=
  ⟨h.1.below hb, h.2.1.below hb, h.2.2.1.below hb, next2 hb h.2.2.2⟩
theorem BR.drew {M : Mem} {n : Nat} {s : St} {e : Ev} {w wx : World} (h : BR M n s e w wx) : BR M n s e w wx.drew := h.below (Below.refl _ _).drew
theorem timed_ck {w : World} {M : Mem} {n : Nat} {s : St} (h : CK w M n s) (e : Ev) : Calls Try.prog 14 #[.pointer (some ⟨M.B, 0, none⟩), evV e] w fun r w' => r = .returned (.bool (timedF s e)) ∧ Below w.heap.size w w' := timed_any M.B s e w h.cells.2.1
theorem goes_ck {w : World} {M : Mem} {n : Nat} {s : St} (h : CK w M n s) (e : Ev) : Calls Try.prog 15 #[.pointer (some ⟨M.B, 0, none⟩), evV e] w fun r w' => r = .returned (.bool (goesF s e)) ∧ Below w.heap.size w w' := by
  obtain ⟨k0, k1, k2, k3, k4, k5, k6, -⟩ := h.cells
  exact goes_any M.B s e w k3 k6
theorem comes_ck {w : World} {M : Mem} {n : Nat} {s : St} (h : CK w M n s) (e : Ev) : Calls Try.prog 16 #[.pointer (some ⟨M.B, 0, none⟩), evV e] w fun r w' => r = .returned (.bool (comesF s e)) ∧ Below w.heap.size w w' := by
  obtain ⟨k0, k1, k2, k3, k4, k5, k6, k7, k8, -⟩ := h.cells
  exact comes_any M.B s e w k7 k8
theorem stands_ck {w : World} {M : Mem} {n : Nat} {s : St} (h : CK w M n s) (e : Ev) : Calls Try.prog 17 #[.pointer (some ⟨M.B, 0, none⟩), evV e] w fun r w' => r = .returned (.bool (standsF s e)) ∧ Below w.heap.size w w' := stands_any M.B s e w h.cells.2.2.1
end Go.Proofs.Ytiefkpfjmbifcaa

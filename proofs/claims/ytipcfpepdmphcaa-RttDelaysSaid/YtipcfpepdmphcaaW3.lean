/-
  When to probe and how long to wait, in the program and in its reference: the walks.
-/
import Derived.Test.YtipcfpepdmphcaaW1
namespace Go.Proofs.Ytipcfpepdmphcaa
open Go.RowKit

theorem mn_bd (x : Int) (h : 0 ≤ x) : 0 ≤ mn x 1099511627776 ∧ mn x 1099511627776 ≤ 1099511627776 := by unfold mn; split <;> omega

set_option maxRecDepth 100000 in
set_option maxHeartbeats 4000000 in
theorem wait_any (e : Est) (hok : e.Ok) (w : World) :
    Calls Try.prog 15 #[.agg #[.int .u64 e.la, .int .u64 e.le, .int .u64 e.sm, .int .u64 e.va, .bool e.kn]] w fun r w' => r = .returned (.int .u64 (waitE e)) ∧ Below w.heap.size w w' := by
  obtain ⟨⟨a0, a1⟩, ⟨b0, b1⟩, ⟨c0, c1⟩, v0, v1⟩ := hok
  obtain ⟨x0, x1⟩ := mn_bd e.la a0
  obtain ⟨y0, y1⟩ := mn_bd e.sm c0
  have hw : Hid (waitE e = mx (9 * mx (mn e.la 1099511627776) (mn e.sm 1099511627776) / 8) 1) := rfl
  have hc : Hid ((capE e).la = mn e.la 1099511627776 ∧ (capE e).sm = mn e.sm 1099511627776) := ⟨rfl, rfl⟩
  have hX : Hid (∀ x y, mx x y = if x < y then y else x) := fun _ _ => rfl
  go_enter Try.func15, Try.ntmps15
  go_wp2_with (first | (go_at_call 19; refine (capped_any e _).mono ?_; rintro r w' ⟨rfl, o1, o2, rfl⟩; rw [hc.out.1, hc.out.2]))
  all_goals (try go_returns)
  all_goals exact ⟨ret_u64 (by rw [hw.out]; simp only [hX.out]; repeat' split; all_goals omega), by go_grown⟩

set_option maxRecDepth 100000 in
set_option maxHeartbeats 4000000 in
theorem rwait_any (e : Est) (hok : e.Ok) (w : World) :
    Calls Try.prog 16 #[.agg #[.int .u64 e.la, .int .u64 e.le, .int .u64 e.sm, .int .u64 e.va, .bool e.kn]] w fun r w' => r = .returned (.int .u64 (waitE e)) ∧ Below w.heap.size w w' := by
  obtain ⟨⟨a0, a1⟩, ⟨b0, b1⟩, ⟨c0, c1⟩, v0, v1⟩ := hok
  have hM : ∀ x, 0 ≤ x → mn 1099511627776 x = mn x 1099511627776 := fun x _ => by unfold mn; repeat' split; all_goals omega
  have e1 := Lib.hid (hM e.la a0)
  have e2 := Lib.hid (hM e.sm c0)
  obtain ⟨x0, x1⟩ := mn_bd e.la a0
  obtain ⟨y0, y1⟩ := mn_bd e.sm c0
  have hw : Hid (waitE e = mx (9 * mx (mn e.la 1099511627776) (mn e.sm 1099511627776) / 8) 1) := rfl
  have hX : Hid (∀ x y, mx x y = if x < y then y else x) := fun _ _ => rfl
  clear hM
  go_enter Try.func16, Try.ntmps16
  go_wp2_with (first | (go_at_call 20; refine (less_any _ _ _).mono ?_; rintro r w' ⟨rfl, rfl⟩; (first | rw [e1.out] | rw [e2.out])))
  all_goals (try go_returns)
  all_goals exact ⟨ret_u64 (by rw [hw.out]; simp only [hX.out]; repeat' split; all_goals omega), by go_grown⟩
end Go.Proofs.Ytipcfpepdmphcaa

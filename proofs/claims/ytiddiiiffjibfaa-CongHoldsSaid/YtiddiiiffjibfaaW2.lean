/-
  What acknowledging, losing and asking for room compute, in the program and in its reference: the walks.
-/
import Derived.Test.YtiddiiiffjibfaaW1
import Derived.Lib.Hide
namespace Go.Proofs.Ytiddiiiffjibfaa
open Go.RowKit

/-- Three new blocks. -/
def Made3 (w w' : World) : Prop := ∃ c1 c2 c3 : Array Value, w' = ((w.alloc (.cells c1 24)).alloc (.cells c2 24)).alloc (.cells c3 24)
/-- Two new blocks. -/
def Made2 (w w' : World) : Prop := ∃ c1 c2 : Array Value, w' = (w.alloc (.cells c1 26)).alloc (.cells c2 26)

/-- Acked: whatever the control and the numbers. -/
theorem acked_same (c : Ctl) (n t : Int) (hr : recv c.s c.f t = true ∨ 1099511627776 < n) (w : World) :
    Calls Try.prog 12 #[.agg #[.int .u64 c.w, .int .u64 c.l, .int .u64 c.s, .bool c.f], .int .u64 n, .int .u64 t] w fun e w' => e = .returned (.agg #[.int .u64 (ackC c n t).w, .int .u64 (ackC c n t).l, .int .u64 (ackC c n t).s, .bool (ackC c n t).f]) ∧ Made3 w w' := by
  have e0 : ackW c n t = c.w := if_pos hr
  have H := Lib.hid e0
  clear e0
  obtain ⟨a, l, s, f⟩ := c
  simp only [ackC] at *
  cases hr0 : recv s f t
  · have hn : 1099511627776 < n := by simpa [hr0] using hr
    clear hr
    go_enter Try.func12, Try.ntmps12
    go_wp2_with (first | (go_at_call 20; refine (recv_any _ _ _ _ _ _).mono ?_; rintro e w' ⟨rfl, c1, rfl⟩))
    all_goals (go_returns; exact ⟨ret_ctl H.out.symm rfl rfl rfl, ⟨_, _, _, rfl⟩⟩)
  · clear hr
    go_enter Try.func12, Try.ntmps12
    go_wp2_with (first | (go_at_call 20; refine (recv_any _ _ _ _ _ _).mono ?_; rintro e w' ⟨rfl, c1, rfl⟩))
    all_goals (go_returns; exact ⟨ret_ctl H.out.symm rfl rfl rfl, ⟨_, _, _, rfl⟩⟩)

set_option maxHeartbeats 800000 in
theorem acked_low (c : Ctl) (n t : Int) (h1 : 0 ≤ c.w) (h2 : c.w < 18446744073709551616) (h3 : 0 ≤ n) (h4 : n ≤ 1099511627776) (hr : recv c.s c.f t = false) (hal : c.w < c.l) (w : World) :
    Calls Try.prog 12 #[.agg #[.int .u64 c.w, .int .u64 c.l, .int .u64 c.s, .bool c.f], .int .u64 n, .int .u64 t] w fun e w' => e = .returned (.agg #[.int .u64 (ackC c n t).w, .int .u64 (ackC c n t).l, .int .u64 (ackC c n t).s, .bool (ackC c n t).f]) ∧ Made3 w w' := by
  have e0 : ackW c n t = mn (mn c.w 1099511627776 + n) 1099511627776 := by
    unfold ackW; rw [if_neg (by rw [hr]; simp; omega), if_pos hal]
  have H := Lib.hid e0
  clear e0
  obtain ⟨a, l, s, f⟩ := c
  simp only [ackC] at *
  go_enter Try.func12, Try.ntmps12
  go_wp2_with (first | (go_at_call 20; refine (recv_any _ _ _ _ _ _).mono ?_; rintro e w' ⟨rfl, c1, rfl⟩))
  all_goals (try go_returns)
  all_goals exact ⟨ret_ctl (by rw [H.out]; unfold mn; repeat' split; all_goals omega) rfl rfl rfl, ⟨_, _, _, rfl⟩⟩

set_option maxHeartbeats 800000 in
theorem acked_zero (c : Ctl) (n t : Int) (h1 : c.w = 0) (h3 : 0 ≤ n) (h4 : n ≤ 1099511627776) (hr : recv c.s c.f t = false) (hal : ¬ c.w < c.l) (w : World) :
    Calls Try.prog 12 #[.agg #[.int .u64 c.w, .int .u64 c.l, .int .u64 c.s, .bool c.f], .int .u64 n, .int .u64 t] w fun e w' => e = .returned (.agg #[.int .u64 (ackC c n t).w, .int .u64 (ackC c n t).l, .int .u64 (ackC c n t).s, .bool (ackC c n t).f]) ∧ Made3 w w' := by
  have e0 : ackW c n t = 1200 := by
    unfold ackW; rw [if_neg (by rw [hr]; simp; omega), if_neg hal, if_pos h1]
  have H := Lib.hid e0
  clear e0
  obtain ⟨a, l, s, f⟩ := c
  simp only [ackC] at *
  subst h1
  have hal' : l ≤ 0 := by omega
  clear hal
  go_enter Try.func12, Try.ntmps12
  go_wp2_with (first | (go_at_call 20; refine (recv_any _ _ _ _ _ _).mono ?_; rintro e w' ⟨rfl, c1, rfl⟩))
  all_goals (try go_returns)
  all_goals exact ⟨ret_ctl (by rw [H.out]) rfl rfl rfl, ⟨_, _, _, rfl⟩⟩

set_option maxHeartbeats 800000 in
theorem acked_high (c : Ctl) (n t : Int) (h1 : 0 < c.w) (h2 : c.w < 18446744073709551616) (h3 : 0 ≤ n) (h4 : n ≤ 1099511627776) (hr : recv c.s c.f t = false) (hal : ¬ c.w < c.l) (w : World) :
    Calls Try.prog 12 #[.agg #[.int .u64 c.w, .int .u64 c.l, .int .u64 c.s, .bool c.f], .int .u64 n, .int .u64 t] w fun e w' => e = .returned (.agg #[.int .u64 (ackC c n t).w, .int .u64 (ackC c n t).l, .int .u64 (ackC c n t).s, .bool (ackC c n t).f]) ∧ Made3 w w' := by
  have e0 : ackW c n t = mn (mn c.w 1099511627776 + 1200 * n / c.w) 1099511627776 := by
    unfold ackW; rw [if_neg (by rw [hr]; simp; omega), if_neg hal, if_neg (by omega)]
  have H := Lib.hid e0
  clear e0
  obtain ⟨q0, q1⟩ := quo_bd n c.w h3 h4 h1
  obtain ⟨a, l, s, f⟩ := c
  simp only [ackC] at *
  have hal' : l ≤ a := by omega
  clear hal
  go_enter Try.func12, Try.ntmps12
  go_wp2_with (first | (go_at_call 20; refine (recv_any _ _ _ _ _ _).mono ?_; rintro e w' ⟨rfl, c1, rfl⟩))
  all_goals (try go_returns)
  all_goals exact ⟨ret_ctl (by rw [H.out]; unfold mn; repeat' split; all_goals omega) rfl rfl rfl, ⟨_, _, _, rfl⟩⟩

theorem acked_any (c : Ctl) (n t : Int) (hc : Word c.w) (hn : Word n) (w : World) :
    Calls Try.prog 12 #[.agg #[.int .u64 c.w, .int .u64 c.l, .int .u64 c.s, .bool c.f], .int .u64 n, .int .u64 t] w fun e w' => e = .returned (.agg #[.int .u64 (ackC c n t).w, .int .u64 (ackC c n t).l, .int .u64 (ackC c n t).s, .bool (ackC c n t).f]) ∧ Made3 w w' := by
  by_cases hr : recv c.s c.f t = true ∨ 1099511627776 < n
  · exact acked_same c n t hr w
  · have hr1 : recv c.s c.f t = false := by
      cases h : recv c.s c.f t
      · rfl
      · exact absurd (Or.inl h) hr
    have hr2 : n ≤ 1099511627776 := by
      rcases Int.lt_or_le 1099511627776 n with h | h
      · exact absurd (Or.inr h) hr
      · exact h
    by_cases hal : c.w < c.l
    · exact acked_low c n t hc.1 hc.2 hn.1 hr2 hr1 hal w
    · by_cases h0 : c.w = 0
      · exact acked_zero c n t h0 hn.1 hr2 hr1 hal w
      · exact acked_high c n t (by have := hc.1; omega) hc.2 hn.1 hr2 hr1 hal w
end Go.Proofs.Ytiddiiiffjibfaa

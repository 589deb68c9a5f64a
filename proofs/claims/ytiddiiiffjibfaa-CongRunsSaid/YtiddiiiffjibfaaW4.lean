/-
  What the reference makes of an acknowledged packet, and what an act makes of a control: the walks.
-/
import Derived.Test.YtiddiiiffjibfaaW3
namespace Go.Proofs.Ytiddiiiffjibfaa
open Go.RowKit

/-- What the reference's Acked gives back. -/
def AckPost (c : Ctl) (n t : Int) (w : World) (e : Ending) (w' : World) : Prop :=
  e = .returned (.agg #[.int .u64 (ackC c n t).w, .int .u64 (ackC c n t).l, .int .u64 (ackC c n t).s, .bool (ackC c n t).f]) ∧ Made2 w w'

set_option maxHeartbeats 800000 in
theorem racked_same (c : Ctl) (n t : Int) (hr : recv c.s c.f t = true ∨ 1099511627776 < n) (w : World) :
    Calls Try.prog 13 #[.agg #[.int .u64 c.w, .int .u64 c.l, .int .u64 c.s, .bool c.f], .int .u64 n, .int .u64 t] w (AckPost c n t w) := by
  have e0 : ackW c n t = c.w := if_pos hr
  have H := Lib.hid e0
  clear e0
  obtain ⟨a, l, s, f⟩ := c
  simp only at *
  cases f
  · have hn : 1099511627776 < n := by simpa [recv] using hr
    clear hr
    go_enter Try.func13, Try.ntmps13
    go_wp2
    all_goals (go_returns; exact ⟨ret_ctl H.out.symm rfl rfl rfl, ⟨_, _, rfl⟩⟩)
  · by_cases ht : t ≤ s
    · clear hr
      go_enter Try.func13, Try.ntmps13
      go_wp2
      all_goals (go_returns; exact ⟨ret_ctl H.out.symm rfl rfl rfl, ⟨_, _, rfl⟩⟩)
    · have hn : 1099511627776 < n := by simpa [recv, ht] using hr
      have ht' : s < t := by omega
      clear hr ht
      go_enter Try.func13, Try.ntmps13
      go_wp2
      all_goals (go_returns; exact ⟨ret_ctl H.out.symm rfl rfl rfl, ⟨_, _, rfl⟩⟩)

set_option maxHeartbeats 800000 in
theorem racked_low (c : Ctl) (n t : Int) (h1 : 0 ≤ c.w) (h2 : c.w < 18446744073709551616) (h3 : 0 ≤ n) (h4 : n ≤ 1099511627776) (hr : recv c.s c.f t = false) (hal : c.w < c.l) (w : World) :
    Calls Try.prog 13 #[.agg #[.int .u64 c.w, .int .u64 c.l, .int .u64 c.s, .bool c.f], .int .u64 n, .int .u64 t] w (AckPost c n t w) := by
  have e0 : ackW c n t = mn (mn c.w 1099511627776 + n) 1099511627776 := by
    unfold ackW; rw [if_neg (by rw [hr]; simp; omega), if_pos hal]
  have H := Lib.hid e0
  clear e0
  obtain ⟨a, l, s, f⟩ := c
  simp only at *
  cases f
  · clear hr
    go_enter Try.func13, Try.ntmps13
    go_wp2
    all_goals (try go_returns)
    all_goals exact ⟨ret_ctl (by show _ = ackW _ _ _; rw [H.out]; unfold mn; repeat' split; all_goals omega) rfl rfl rfl, ⟨_, _, rfl⟩⟩
  · have ht : s < t := by simpa [recv] using hr
    clear hr
    go_enter Try.func13, Try.ntmps13
    go_wp2
    all_goals (try go_returns)
    all_goals exact ⟨ret_ctl (by show _ = ackW _ _ _; rw [H.out]; unfold mn; repeat' split; all_goals omega) rfl rfl rfl, ⟨_, _, rfl⟩⟩

set_option maxHeartbeats 800000 in
theorem racked_zero (c : Ctl) (n t : Int) (h1 : c.w = 0) (h3 : 0 ≤ n) (h4 : n ≤ 1099511627776) (hr : recv c.s c.f t = false) (hal : ¬ c.w < c.l) (w : World) :
    Calls Try.prog 13 #[.agg #[.int .u64 c.w, .int .u64 c.l, .int .u64 c.s, .bool c.f], .int .u64 n, .int .u64 t] w (AckPost c n t w) := by
  have e0 : ackW c n t = 1200 := by
    unfold ackW; rw [if_neg (by rw [hr]; simp; omega), if_neg hal, if_pos h1]
  have H := Lib.hid e0
  clear e0
  obtain ⟨a, l, s, f⟩ := c
  simp only at *
  subst h1
  have hal' : l ≤ 0 := by omega
  clear hal
  cases f
  · clear hr
    go_enter Try.func13, Try.ntmps13
    go_wp2
    all_goals (try go_returns)
    all_goals exact ⟨ret_ctl (by show _ = ackW _ _ _; rw [H.out]) rfl rfl rfl, ⟨_, _, rfl⟩⟩
  · have ht : s < t := by simpa [recv] using hr
    clear hr
    go_enter Try.func13, Try.ntmps13
    go_wp2
    all_goals (try go_returns)
    all_goals exact ⟨ret_ctl (by show _ = ackW _ _ _; rw [H.out]) rfl rfl rfl, ⟨_, _, rfl⟩⟩

set_option maxHeartbeats 800000 in
theorem racked_high (c : Ctl) (n t : Int) (h1 : 0 < c.w) (h2 : c.w < 18446744073709551616) (h3 : 0 ≤ n) (h4 : n ≤ 1099511627776) (hr : recv c.s c.f t = false) (hal : ¬ c.w < c.l) (w : World) :
    Calls Try.prog 13 #[.agg #[.int .u64 c.w, .int .u64 c.l, .int .u64 c.s, .bool c.f], .int .u64 n, .int .u64 t] w (AckPost c n t w) := by
  have e0 : ackW c n t = mn (mn c.w 1099511627776 + 1200 * n / c.w) 1099511627776 := by
    unfold ackW; rw [if_neg (by rw [hr]; simp; omega), if_neg hal, if_neg (by omega)]
  have H := Lib.hid e0
  clear e0
  obtain ⟨q0, q1⟩ := quo_bd n c.w h3 h4 h1
  obtain ⟨a, l, s, f⟩ := c
  simp only at *
  have hal' : l ≤ a := by omega
  clear hal
  cases f
  · clear hr
    go_enter Try.func13, Try.ntmps13
    go_wp2
    all_goals (try go_returns)
    all_goals exact ⟨ret_ctl (by show _ = ackW _ _ _; rw [H.out]; unfold mn; repeat' split; all_goals omega) rfl rfl rfl, ⟨_, _, rfl⟩⟩
  · have ht : s < t := by simpa [recv] using hr
    clear hr
    go_enter Try.func13, Try.ntmps13
    go_wp2
    all_goals (try go_returns)
    all_goals exact ⟨ret_ctl (by show _ = ackW _ _ _; rw [H.out]; unfold mn; repeat' split; all_goals omega) rfl rfl rfl, ⟨_, _, rfl⟩⟩

theorem racked_any (c : Ctl) (n t : Int) (hc : Word c.w) (hn : Word n) (w : World) :
    Calls Try.prog 13 #[.agg #[.int .u64 c.w, .int .u64 c.l, .int .u64 c.s, .bool c.f], .int .u64 n, .int .u64 t] w fun e w' => e = .returned (.agg #[.int .u64 (ackC c n t).w, .int .u64 (ackC c n t).l, .int .u64 (ackC c n t).s, .bool (ackC c n t).f]) ∧ Made2 w w' := by
  show Calls _ _ _ _ (AckPost c n t w)
  by_cases hr : recv c.s c.f t = true ∨ 1099511627776 < n
  · exact racked_same c n t hr w
  · have hr1 : recv c.s c.f t = false := by
      cases h : recv c.s c.f t
      · rfl
      · exact absurd (Or.inl h) hr
    have hr2 : n ≤ 1099511627776 := by
      rcases Int.lt_or_le 1099511627776 n with h | h
      · exact absurd (Or.inr h) hr
      · exact h
    by_cases hal : c.w < c.l
    · exact racked_low c n t hc.1 hc.2 hn.1 hr2 hr1 hal w
    · by_cases h0 : c.w = 0
      · exact racked_zero c n t h0 hn.1 hr2 hr1 hal w
      · exact racked_high c n t (by have := hc.1; omega) hc.2 hn.1 hr2 hr1 hal w
end Go.Proofs.Ytiddiiiffjibfaa

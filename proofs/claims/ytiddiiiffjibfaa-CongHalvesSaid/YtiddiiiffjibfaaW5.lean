/-
  What an act makes of a control: the walk.
-/
import Derived.Test.YtiddiiiffjibfaaW2
import Derived.Test.YtiddiiiffjibfaaW3
import Derived.Test.YtiddiiiffjibfaaPure
namespace Go.Proofs.Ytiddiiiffjibfaa
open Go.RowKit

set_option maxHeartbeats 800000 in
theorem play_any (c : Ctl) (x : Deed) (hc : Word c.w) (hx : Word x.n) (w : World) :
    Calls Try.prog 19 #[.agg #[.int .u64 c.w, .int .u64 c.l, .int .u64 c.s, .bool c.f], .agg #[.int .i64 x.k, .int .u64 x.n, .int .u64 x.t, .int .u64 x.now]] w fun e w' => e = .returned (.agg #[.int .u64 (playC c x).w, .int .u64 (playC c x).l, .int .u64 (playC c x).s, .bool (playC c x).f]) ∧ Below w.heap.size w w' := by
  by_cases h0 : x.k = 0
  · have e0 : playC c x = ackC c x.n x.t := by unfold playC; rw [if_pos h0]
    rw [e0, h0]
    clear e0 h0
    go_enter Try.func19, Try.ntmps19
    go_wp2_with (first | (go_at_call 12; refine (acked_any c _ _ hc hx _).mono ?_; rintro e w' ⟨rfl, c1, c2, c3, rfl⟩))
    go_returns
    exact ⟨rfl, by go_grown⟩
  · by_cases h1 : x.k = 1
    · have e0 : playC c x = lostC c x.t x.now := by unfold playC; rw [if_neg h0, if_pos h1]
      rw [e0, h1]
      clear e0 h0 h1
      go_enter Try.func19, Try.ntmps19
      go_wp2_with (first | (go_at_call 14; refine (lost_any c _ _ hc _).mono ?_; rintro e w' ⟨rfl, c1, c2, c3, rfl⟩))
      go_returns
      exact ⟨rfl, by go_grown⟩
    · by_cases h2 : x.k = 2
      · have e0 : playC c x = stuckC c := by unfold playC; rw [if_neg h0, if_neg h1, if_pos h2]
        rw [e0, h2]
        clear e0 h0 h1 h2
        go_enter Try.func19, Try.ntmps19
        go_wp2_with (first | (go_at_call 11; refine (stuck_any _ _ _ _ _).mono ?_; rintro e w' ⟨rfl, c1, c2, c3, rfl⟩))
        go_returns
        exact ⟨rfl, by go_grown⟩
      · have e0 : playC c x = c := by unfold playC; rw [if_neg h0, if_neg h1, if_neg h2]
        rw [e0]
        have g0 : (x.k == 0) = false := by simpa using h0
        have g1 : (x.k == 1) = false := by simpa using h1
        have g2 : (x.k == 2) = false := by simpa using h2
        clear e0 h0 h1 h2
        go_enter Try.func19, Try.ntmps19
        go_wp2_with fail
        go_returns
        exact ⟨rfl, by go_grown⟩
end Go.Proofs.Ytiddiiiffjibfaa

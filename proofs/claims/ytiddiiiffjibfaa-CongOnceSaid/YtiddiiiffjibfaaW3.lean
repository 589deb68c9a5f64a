/-
  What losing and asking for room compute, and the reference's three functions, and what an act makes of a control: the walks.
-/
import Derived.Test.YtiddiiiffjibfaaW2
namespace Go.Proofs.Ytiddiiiffjibfaa
open Go.RowKit

set_option maxHeartbeats 800000 in
theorem lost_any (c : Ctl) (t now : Int) (hc : Word c.w) (w : World) :
    Calls Try.prog 14 #[.agg #[.int .u64 c.w, .int .u64 c.l, .int .u64 c.s, .bool c.f], .int .u64 t, .int .u64 now] w fun e w' => e = .returned (.agg #[.int .u64 (lostC c t now).w, .int .u64 (lostC c t now).l, .int .u64 (lostC c t now).s, .bool (lostC c t now).f]) ∧ Made3 w w' := by
  obtain ⟨b0, b1⟩ := hc
  cases hr : recv c.s c.f t
  · have e0 : lostC c t now = ⟨mx (c.w / 2) 2400, mx (c.w / 2) 2400, now, true⟩ := by unfold lostC; rw [hr]; simp
    have H := Lib.hid e0
    clear e0
    obtain ⟨a, l, s, f⟩ := c
    simp only at *
    go_enter Try.func14, Try.ntmps14
    go_wp2_with (first | (go_at_call 20; refine (recv_any _ _ _ _ _ _).mono ?_; rintro e w' ⟨rfl, c1, rfl⟩))
    all_goals (try go_returns)
    all_goals
      rw [H.out]
      exact ⟨ret_ctl (by simp only; unfold mx; repeat' split; all_goals omega) (by simp only; unfold mx; repeat' split; all_goals omega) rfl rfl, ⟨_, _, _, rfl⟩⟩
  · have e0 : lostC c t now = c := by unfold lostC; rw [hr]; simp
    have H := Lib.hid e0
    clear e0
    obtain ⟨a, l, s, f⟩ := c
    simp only at *
    go_enter Try.func14, Try.ntmps14
    go_wp2_with (first | (go_at_call 20; refine (recv_any _ _ _ _ _ _).mono ?_; rintro e w' ⟨rfl, c1, rfl⟩))
    all_goals (try go_returns)
    all_goals
      rw [H.out]
      exact ⟨ret_ctl rfl rfl rfl rfl, ⟨_, _, _, rfl⟩⟩

set_option maxHeartbeats 800000 in
theorem room_any (c : Ctl) (x : Int) (hc : Word c.w) (hx : Word x) (w : World) :
    Calls Try.prog 16 #[.agg #[.int .u64 c.w, .int .u64 c.l, .int .u64 c.s, .bool c.f], .int .u64 x] w fun e w' => e = .returned (.int .u64 (roomC c x)) ∧ ∃ c1 : Array Value, w' = w.alloc (.cells c1 24) := by
  obtain ⟨b0, b1⟩ := hc
  obtain ⟨d0, d1⟩ := hx
  obtain ⟨a, l, s, f⟩ := c
  simp only at *
  go_enter Try.func16, Try.ntmps16
  go_wp2
  all_goals (try go_returns)
  all_goals exact ⟨ret_u64 (by unfold roomC mn; simp only; split <;> omega), _, rfl⟩

set_option maxHeartbeats 800000 in
theorem rroom_any (c : Ctl) (x : Int) (hc : Word c.w) (hx : Word x) (w : World) :
    Calls Try.prog 17 #[.agg #[.int .u64 c.w, .int .u64 c.l, .int .u64 c.s, .bool c.f], .int .u64 x] w fun e w' => e = .returned (.int .u64 (roomC c x)) ∧ ∃ c1 : Array Value, w' = w.alloc (.cells c1 26) := by
  obtain ⟨b0, b1⟩ := hc
  obtain ⟨d0, d1⟩ := hx
  obtain ⟨a, l, s, f⟩ := c
  simp only at *
  go_enter Try.func17, Try.ntmps17
  go_wp2
  all_goals (try go_returns)
  all_goals exact ⟨ret_u64 (by unfold roomC mn; simp only; split <;> omega), _, rfl⟩

set_option maxHeartbeats 800000 in
theorem rlost_any (c : Ctl) (t now : Int) (hc : Word c.w) (w : World) :
    Calls Try.prog 15 #[.agg #[.int .u64 c.w, .int .u64 c.l, .int .u64 c.s, .bool c.f], .int .u64 t, .int .u64 now] w fun e w' => e = .returned (.agg #[.int .u64 (lostC c t now).w, .int .u64 (lostC c t now).l, .int .u64 (lostC c t now).s, .bool (lostC c t now).f]) ∧ Made2 w w' := by
  obtain ⟨b0, b1⟩ := hc
  obtain ⟨a, l, s, f⟩ := c
  simp only at *
  cases f
  · have e0 : lostC ⟨a, l, s, false⟩ t now = ⟨mx (a / 2) 2400, mx (a / 2) 2400, now, true⟩ := by unfold lostC recv; simp
    have H := Lib.hid e0
    clear e0
    go_enter Try.func15, Try.ntmps15
    go_wp2
    all_goals (try go_returns)
    all_goals
      rw [H.out]
      exact ⟨ret_ctl (by simp only; unfold mx; repeat' split; all_goals omega) (by simp only; unfold mx; repeat' split; all_goals omega) rfl rfl, ⟨_, _, rfl⟩⟩
  · by_cases ht : t ≤ s
    · have e0 : lostC ⟨a, l, s, true⟩ t now = ⟨a, l, s, true⟩ := by unfold lostC recv; simp [ht]
      have H := Lib.hid e0
      clear e0
      go_enter Try.func15, Try.ntmps15
      go_wp2
      all_goals (try go_returns)
      all_goals
        rw [H.out]
        exact ⟨ret_ctl rfl rfl rfl rfl, ⟨_, _, rfl⟩⟩
    · have e0 : lostC ⟨a, l, s, true⟩ t now = ⟨mx (a / 2) 2400, mx (a / 2) 2400, now, true⟩ := by unfold lostC recv; simp [ht]
      have H := Lib.hid e0
      clear e0
      have ht' : s < t := by omega
      clear ht
      go_enter Try.func15, Try.ntmps15
      go_wp2
      all_goals (try go_returns)
      all_goals
        rw [H.out]
        exact ⟨ret_ctl (by simp only; unfold mx; repeat' split; all_goals omega) (by simp only; unfold mx; repeat' split; all_goals omega) rfl rfl, ⟨_, _, rfl⟩⟩
end Go.Proofs.Ytiddiiiffjibfaa

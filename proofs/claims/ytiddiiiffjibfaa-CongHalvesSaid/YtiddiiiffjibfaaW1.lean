/-
  What each function of the congestion control, and of its reference, computes: the walks through the code, each once.
-/
import Derived.Test.YtiddiiiffjibfaaRows
import Derived.Test.YtiddiiiffjibfaaPlain
import Derived.WalkKit
import Derived.WalkSpells
import Derived.WalkLawsBesides
import Derived.Handy
import Derived.BigQuiet
import Derived.Deep.RegionHeld3
namespace Go.Proofs.Ytiddiiiffjibfaa
open Go.RowKit

theorem eql24 (a l s : Int) (f : Bool) (a' l' s' : Int) (f' : Bool) (w : World) :
    (binOp .eql 24 (.agg #[.int .u64 a, .int .u64 l, .int .u64 s, .bool f]) (.agg #[.int .u64 a', .int .u64 l', .int .u64 s', .bool f'])).run Try.prog w = .ok (.bool (ceq a l s f a' l' s' f')) w := by
  unfold ceq
  cases h1 : a == a' <;> cases h2 : l == l' <;> cases h3 : s == s' <;> cases h4 : f == f' <;> simp [go_sem, h1, h2, h3, h4]
theorem eql26 (a l s : Int) (f : Bool) (a' l' s' : Int) (f' : Bool) (w : World) :
    (binOp .eql 26 (.agg #[.int .u64 a, .int .u64 l, .int .u64 s, .bool f]) (.agg #[.int .u64 a', .int .u64 l', .int .u64 s', .bool f'])).run Try.prog w = .ok (.bool (ceq a l s f a' l' s' f')) w := by
  unfold ceq
  cases h1 : a == a' <;> cases h2 : l == l' <;> cases h3 : s == s' <;> cases h4 : f == f' <;> simp [go_sem, h1, h2, h3, h4]

theorem ret_ctl {a l s a' l' s' : Int} {f f' : Bool} (h1 : a = a') (h2 : l = l') (h3 : s = s') (h4 : f = f') :
    Ending.returned (.agg #[.int .u64 a, .int .u64 l, .int .u64 s, .bool f]) = Ending.returned (.agg #[.int .u64 a', .int .u64 l', .int .u64 s', .bool f']) := by rw [h1, h2, h3, h4]
theorem ret_u64 {a b : Int} (h : a = b) : Ending.returned (.int .u64 a) = Ending.returned (.int .u64 b) := by rw [h]

set_option maxHeartbeats 400000 in
theorem first_any (w : World) :
    Calls Try.prog 18 #[] w fun e w' => e = .returned (.agg #[.int .u64 12000, .int .u64 1099511627776, .int .u64 0, .bool false]) ∧ ∃ c : Array Value, w' = w.alloc (.cells c 24) := by
  go_enter Try.func18, Try.ntmps18
  go_wp2
  go_returns
  exact ⟨rfl, _, rfl⟩

theorem recv_any (a l s : Int) (f : Bool) (t : Int) (w : World) :
    Calls Try.prog 20 #[.agg #[.int .u64 a, .int .u64 l, .int .u64 s, .bool f], .int .u64 t] w fun e w' => e = .returned (.bool (recv s f t)) ∧ ∃ c : Array Value, w' = w.alloc (.cells c 24) := by
  unfold recv
  cases f
  all_goals
    go_enter Try.func20, Try.ntmps20
    go_wp2
    go_returns
    exact ⟨by simp, _, rfl⟩

set_option maxHeartbeats 400000 in
theorem stuck_any (a l s : Int) (f : Bool) (w : World) :
    Calls Try.prog 11 #[.agg #[.int .u64 a, .int .u64 l, .int .u64 s, .bool f]] w fun e w' => e = .returned (.agg #[.int .u64 2400, .int .u64 l, .int .u64 0, .bool false]) ∧ ∃ c1 c2 c3 : Array Value, w' = (((w.alloc (.cells c1 24)).alloc (.cells c2 24)).alloc (.cells c3 24)).drew := by
  have hq := eql24 a l s f
  have hl : ceq a l s f 12000 1099511627776 0 false = true → 1099511627776 = l := by
    unfold ceq; simp; intros; omega
  rcases hc : ceq a l s f 12000 1099511627776 0 false with _ | _
  · clear hl
    go_enter Try.func11, Try.ntmps11
    go_wp2
    go_region_held3 (fun w' => w'.cell? ⟨w.heap.size, 0, none⟩ = some (.int .u64 a) ∧ w'.cell? ⟨w.heap.size, 1, none⟩ = some (.int .u64 l) ∧ w'.cell? ⟨w.heap.size, 2, none⟩ = some (.int .u64 s) ∧ w'.cell? ⟨w.heap.size, 3, none⟩ = some (.bool f)) (simp [go_sem, World.cell?_alloc_past])
      (first | (go_at_call 18; refine (first_any _).mono ?_; rintro e w' ⟨rfl, c, rfl⟩))
    go_wp2
    go_returns
    exact ⟨rfl, _, _, _, rfl⟩
  · obtain rfl := hl hc
    clear hl
    go_enter Try.func11, Try.ntmps11
    go_wp2
    go_region_held3 (fun w' => w'.cell? ⟨w.heap.size, 0, none⟩ = some (.int .u64 a) ∧ w'.cell? ⟨w.heap.size, 1, none⟩ = some (.int .u64 1099511627776) ∧ w'.cell? ⟨w.heap.size, 2, none⟩ = some (.int .u64 s) ∧ w'.cell? ⟨w.heap.size, 3, none⟩ = some (.bool f)) (simp [go_sem, World.cell?_alloc_past])
      (first | (go_at_call 18; refine (first_any _).mono ?_; rintro e w' ⟨rfl, c, rfl⟩))
    go_wp2
    go_returns
    exact ⟨rfl, _, _, _, rfl⟩

set_option maxHeartbeats 4000000 in
theorem awake_any (w : World) :
    Calls Try.prog 10 #[] w fun e w' => e = .returned (.bool true) ∧ Below w.heap.size w w' := by
  go_enter Try.func10, Try.ntmps10
  go_wp2_with (first | (go_at_call 11; refine (stuck_any _ _ _ _ _).mono ?_; rintro e w' ⟨rfl, c1, c2, c3, rfl⟩) | go_in)
  go_returns
  exact ⟨rfl, by go_grown⟩
end Go.Proofs.Ytiddiiiffjibfaa

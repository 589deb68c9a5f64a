/-
  What capping, comparing and taking one sample more compute: the walks.
-/
import Derived.Test.YtipcfpepdmphcaaRows
import Derived.Test.YtipcfpepdmphcaaPlain
import Derived.WalkKit
import Derived.WalkSpells
import Derived.WalkLawsBesides
import Derived.Handy
import Derived.Lib.Hide
import Derived.BigQuiet
import Derived.Deep.RegionHeld3
namespace Go.Proofs.Ytipcfpepdmphcaa
open Go.RowKit

theorem eql24 (a b c d : Int) (f : Bool) (a' b' c' d' : Int) (f' : Bool) (w : World) :
    (binOp .eql 24 (.agg #[.int .u64 a, .int .u64 b, .int .u64 c, .int .u64 d, .bool f]) (.agg #[.int .u64 a', .int .u64 b', .int .u64 c', .int .u64 d', .bool f'])).run Try.prog w = .ok (.bool (eqE a b c d f a' b' c' d' f')) w := by
  unfold eqE
  cases h1 : a == a' <;> cases h2 : b == b' <;> cases h3 : c == c' <;> cases h4 : d == d' <;> cases h5 : f == f' <;> simp [go_sem, h1, h2, h3, h4, h5]
theorem neq24 (a b c d : Int) (f : Bool) (a' b' c' d' : Int) (f' : Bool) (w : World) :
    (binOp .neq 24 (.agg #[.int .u64 a, .int .u64 b, .int .u64 c, .int .u64 d, .bool f]) (.agg #[.int .u64 a', .int .u64 b', .int .u64 c', .int .u64 d', .bool f'])).run Try.prog w = .ok (.bool (!eqE a b c d f a' b' c' d' f')) w := by
  unfold eqE
  cases h1 : a == a' <;> cases h2 : b == b' <;> cases h3 : c == c' <;> cases h4 : d == d' <;> cases h5 : f == f' <;> simp [go_sem, h1, h2, h3, h4, h5]
theorem eql26 (a b c d : Int) (f : Bool) (a' b' c' d' : Int) (f' : Bool) (w : World) :
    (binOp .eql 26 (.agg #[.int .u64 a, .int .u64 b, .int .u64 c, .int .u64 d, .bool f]) (.agg #[.int .u64 a', .int .u64 b', .int .u64 c', .int .u64 d', .bool f'])).run Try.prog w = .ok (.bool (eqE a b c d f a' b' c' d' f')) w := by
  unfold eqE
  cases h1 : a == a' <;> cases h2 : b == b' <;> cases h3 : c == c' <;> cases h4 : d == d' <;> cases h5 : f == f' <;> simp [go_sem, h1, h2, h3, h4, h5]
theorem neq26 (a b c d : Int) (f : Bool) (a' b' c' d' : Int) (f' : Bool) (w : World) :
    (binOp .neq 26 (.agg #[.int .u64 a, .int .u64 b, .int .u64 c, .int .u64 d, .bool f]) (.agg #[.int .u64 a', .int .u64 b', .int .u64 c', .int .u64 d', .bool f'])).run Try.prog w = .ok (.bool (!eqE a b c d f a' b' c' d' f')) w := by
  unfold eqE
  cases h1 : a == a' <;> cases h2 : b == b' <;> cases h3 : c == c' <;> cases h4 : d == d' <;> cases h5 : f == f' <;> simp [go_sem, h1, h2, h3, h4, h5]

theorem ret_est {a b c d a' b' c' d' : Int} {f f' : Bool} (h1 : a = a') (h2 : b = b') (h3 : c = c') (h4 : d = d') (h5 : f = f') :
    Ending.returned (.agg #[.int .u64 a, .int .u64 b, .int .u64 c, .int .u64 d, .bool f]) = Ending.returned (.agg #[.int .u64 a', .int .u64 b', .int .u64 c', .int .u64 d', .bool f']) := by rw [h1, h2, h3, h4, h5]
theorem ret_u64 {a b : Int} (h : a = b) : Ending.returned (.int .u64 a) = Ending.returned (.int .u64 b) := by rw [h]
theorem below_drew {w w' : World} (hp : Below w.drew.heap.size w.drew w') : Below w.heap.size w w' := Below.trans (Below.refl _ w).drew (Below.mono hp (Nat.le_refl _))
def Made2 (w w' : World) : Prop := ∃ c1 c2 : Array Value, w' = (w.alloc (.cells c1 24)).alloc (.cells c2 24)

set_option maxHeartbeats 400000 in
theorem first_any (w : World) :
    Calls Try.prog 17 #[] w fun e w' => e = .returned (.agg #[.int .u64 0, .int .u64 0, .int .u64 333, .int .u64 166, .bool false]) ∧ ∃ c : Array Value, w' = w.alloc (.cells c 24) := by
  go_enter Try.func17, Try.ntmps17
  go_wp2
  go_returns
  exact ⟨rfl, _, rfl⟩

theorem less_any (a b : Int) (w : World) :
    Calls Try.prog 20 #[.int .u64 a, .int .u64 b] w fun e w' => e = .returned (.int .u64 (mn b a)) ∧ w = w' := by
  go_enter Try.func20, Try.ntmps20
  go_wp2
  all_goals (go_ret; exact ⟨ret_u64 (by unfold mn; split <;> omega), rfl⟩)

set_option maxRecDepth 100000 in
set_option maxHeartbeats 4000000 in
theorem capped_any (e : Est) (w : World) :
    Calls Try.prog 19 #[.agg #[.int .u64 e.la, .int .u64 e.le, .int .u64 e.sm, .int .u64 e.va, .bool e.kn]] w fun r w' => r = .returned (.agg #[.int .u64 (capE e).la, .int .u64 (capE e).le, .int .u64 (capE e).sm, .int .u64 (capE e).va, .bool (capE e).kn]) ∧ Made2 w w' := by
  have i0 : ∀ (p0 p1 p2 p3 : Value) (w : World), (Instr.index 45 (.agg #[p0, p1, p2, p3]) (.int .i64 0)).run Try.prog w = .ok p0 w := fun _ _ _ _ _ => by kernel_rfl
  have i1 : ∀ (p0 p1 p2 p3 : Value) (w : World), (Instr.index 45 (.agg #[p0, p1, p2, p3]) (.int .i64 1)).run Try.prog w = .ok p1 w := fun _ _ _ _ _ => by kernel_rfl
  have i2 : ∀ (p0 p1 p2 p3 : Value) (w : World), (Instr.index 45 (.agg #[p0, p1, p2, p3]) (.int .i64 2)).run Try.prog w = .ok p2 w := fun _ _ _ _ _ => by kernel_rfl
  have i3 : ∀ (p0 p1 p2 p3 : Value) (w : World), (Instr.index 45 (.agg #[p0, p1, p2, p3]) (.int .i64 3)).run Try.prog w = .ok p3 w := fun _ _ _ _ _ => by kernel_rfl
  have hm : ∀ x, mn x 1099511627776 = if 1099511627776 < x then 1099511627776 else x := fun _ => rfl
  obtain ⟨a, b, c, d, f⟩ := e
  have HM := Lib.hid hm
  clear hm
  simp only [capE]
  go_enter Try.func19, Try.ntmps19
  go_wp2
  go_rounds 5
  all_goals (try go_returns)
  all_goals exact ⟨ret_est (by rw [HM.out]; split <;> omega) (by rw [HM.out]; split <;> omega) (by rw [HM.out]; split <;> omega) (by rw [HM.out]; split <;> omega) rfl, _, _, rfl⟩
end Go.Proofs.Ytipcfpepdmphcaa

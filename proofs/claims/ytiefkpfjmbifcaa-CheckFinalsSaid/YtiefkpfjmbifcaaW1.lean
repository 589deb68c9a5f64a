/-
  The checker's functions that look and do not write: the walks.
-/
import Derived.Test.YtiefkpfjmbifcaaPlain
import Derived.WalkKit
import Derived.WalkSpells
import Derived.WalkLawsBesides
import Derived.BigQuiet
import Derived.Deep.QuietTactic
import Derived.Handy
import Derived.Lib.Hide
import Derived.Below
namespace Go.Proofs.Ytiefkpfjmbifcaa
open Go.RowKit

theorem bnf {a b : Int} (h : ¬ a = b) : (a == b) = false := by simp [h]
theorem bnt {a b : Int} (h : ¬ a = b) : (a != b) = true := by simp [h]
theorem btt {a b : Int} (h : a = b) : (a == b) = true := by simp [h]
theorem btf {a b : Int} (h : a = b) : (a != b) = false := by simp [h]
theorem next {B : Nat} {a w w' : World} (h : Below B a w) (hb : Below w.heap.size w w') (hB : B ≤ w.heap.size) : Below B a w' := h.trans (hb.mono hB)
theorem next2 {a w w' : World} (hb : Below w.heap.size w w') (h : Below a.heap.size a w) : Below a.heap.size a w' := next h hb h.size
theorem wrap_len (b : Int) (s : ByteArray) : IntKind.u64.wrap (b + IntKind.u64.wrap s.size) = IntKind.u64.wrap (b + s.size) := by
  simp [IntKind.wrap, IntKind.signed, IntKind.bits]
set_option maxRecDepth 100000 in
set_option maxHeartbeats 2000000 in
theorem closing_any (f : Frm) (w : World) : Calls Try.prog 25 #[frV f] w fun r w' => r = .returned (.bool (closingF f)) ∧ Below w.heap.size w w' := by
  unfold frV closingF
  by_cases h : f.k = 28
  all_goals
    go_enter Try.func25, Try.ntmps25
    go_wp2_with fail
    go_ret
    exact ⟨by simp [h], by go_grown⟩

set_option maxRecDepth 100000 in
set_option maxHeartbeats 2000000 in
theorem end_any (f : Frm) (w : World) : Calls Try.prog 28 #[frV f] w fun r w' => r = .returned (.int .u64 (endF f)) ∧ Below w.heap.size w w' := by
  unfold frV endF
  by_cases h : f.k = 4
  all_goals
    go_enter Try.func28, Try.ntmps28
    go_wp2_with fail
    go_ret
    exact ⟨by simp [wrap_len], by go_grown⟩

set_option maxRecDepth 100000 in
set_option maxHeartbeats 2000000 in
theorem timed_any (B : Nat) (s : St) (e : Ev) (w : World) (k1 : w.cell? ⟨B, 1, none⟩ = some (.int .u64 s.clock)) :
    Calls Try.prog 14 #[.pointer (some ⟨B, 0, none⟩), evV e] w fun r w' => r = .returned (.bool (timedF s e)) ∧ Below w.heap.size w w' := by
  have hB : B < w.heap.size := World.block_lt_of_cell? _ _ k1
  have hB1 : B ≠ w.heap.size := by omega
  unfold evV timedF
  by_cases h : e.k = 3
  · rw [if_pos h]
    by_cases h2 : e.tm = e.num
    · have h3 := btt h2
      go_enter Try.func14, Try.ntmps14
      go_wp2_with fail
      go_region
      all_goals
        (try go_wp2_with fail)
        go_ret
        exact ⟨by simp [h2], by go_grown⟩
    · have h3 := bnf h2
      go_enter Try.func14, Try.ntmps14
      go_wp2_with fail
      go_region
      all_goals
        (try go_wp2_with fail)
        go_ret
        exact ⟨by simp [h3], by go_grown⟩
  · have h3 := bnf h
    rw [if_neg h]
    go_enter Try.func14, Try.ntmps14
    go_wp2_with fail
    go_region
    all_goals
      (try go_wp2_with fail)
      go_ret
      exact ⟨rfl, by go_grown⟩

set_option maxRecDepth 100000 in
set_option maxHeartbeats 2000000 in
theorem next_any (B : Nat) (left stage : Int) (w : World) (k5 : w.cell? ⟨B, 5, none⟩ = some (.int .u64 left)) (k6 : w.cell? ⟨B, 6, none⟩ = some (.int .i64 stage)) (f6 : w.frozen? ⟨B, 6, none⟩ = false) :
    Calls Try.prog 20 #[.pointer (some ⟨B, 0, none⟩)] w fun r w' => r = .returned (.tuple #[]) ∧ w' = if left = 0 then w.setCell ⟨B, 6, none⟩ (.int .i64 2) else w := by
  by_cases h : left = 0
  · rw [if_pos h]
    go_enter Try.func20, Try.ntmps20
    go_wp2_with fail
    go_end0
    exact ⟨rfl, rfl⟩
  · have h3 := bnf h
    rw [if_neg h]
    go_enter Try.func20, Try.ntmps20
    go_wp2_with fail
    go_end0
    exact ⟨rfl, rfl⟩

set_option maxRecDepth 100000 in
set_option maxHeartbeats 2000000 in
theorem goes_any (B : Nat) (s : St) (e : Ev) (w : World) (k3 : w.cell? ⟨B, 3, none⟩ = some (.int .i64 s.gs)) (k6 : w.cell? ⟨B, 6, none⟩ = some (.int .i64 s.stage)) :
    Calls Try.prog 15 #[.pointer (some ⟨B, 0, none⟩), evV e] w fun r w' => r = .returned (.bool (goesF s e)) ∧ Below w.heap.size w w' := by
  have hB : B < w.heap.size := World.block_lt_of_cell? _ _ k3
  have hB1 : B ≠ w.heap.size := by omega
  unfold evV goesF
  rcases (show s.stage = 1 ∨ s.stage = 2 ∨ s.stage = 3 ∨ (s.stage ≠ 1 ∧ s.stage ≠ 2 ∧ s.stage ≠ 3) from by omega) with h | h | h | ⟨h, h2, h3⟩
  · rw [if_pos h]
    by_cases h2 : e.k = 8
    · have h3 := btt h2
      go_enter Try.func15, Try.ntmps15
      go_wp2_with fail
      go_region
      all_goals
        (try go_wp2_with fail)
        go_ret
        exact ⟨by simp [h2], by go_grown⟩
    · have h3 := bnf h2
      go_enter Try.func15, Try.ntmps15
      go_wp2_with fail
      go_region
      all_goals
        (try go_wp2_with fail)
        go_ret
        exact ⟨by simp [h2], by go_grown⟩
  · rw [if_neg (by omega), if_pos h]
    go_enter Try.func15, Try.ntmps15
    go_wp2_with fail
    go_ret
    exact ⟨by simp, by go_grown⟩
  · rw [if_neg (by omega), if_neg (by omega), if_pos h]
    go_enter Try.func15, Try.ntmps15
    go_wp2_with fail
    go_ret
    exact ⟨by simp, by go_grown⟩
  · rw [if_neg h, if_neg h2, if_neg h3]
    rcases (show e.k = 8 ∨ e.k = 4 ∨ (e.k ≠ 8 ∧ e.k ≠ 4) from by omega) with g | g | ⟨g, g2⟩
    all_goals
      go_enter Try.func15, Try.ntmps15
      go_wp2_with fail
      go_ret
      exact ⟨by simp [*], by go_grown⟩

set_option maxRecDepth 100000 in
set_option maxHeartbeats 2000000 in
theorem comes_any (B : Nat) (s : St) (e : Ev) (w : World) (k7 : w.cell? ⟨B, 7, none⟩ = some (.int .i64 s.coming)) (k8 : w.cell? ⟨B, 8, none⟩ = some (.int .u64 s.rest)) :
    Calls Try.prog 16 #[.pointer (some ⟨B, 0, none⟩), evV e] w fun r w' => r = .returned (.bool (comesF s e)) ∧ Below w.heap.size w w' := by
  have hB : B < w.heap.size := World.block_lt_of_cell? _ _ k7
  have hB1 : B ≠ w.heap.size := by omega
  unfold evV comesF
  by_cases h : e.k = 9
  · rw [if_pos h]
    rcases (show 0 < s.rest ∨ ¬ 0 < s.rest from by omega) with g | g
    · have h3 := decide_eq_true g
      go_enter Try.func16, Try.ntmps16
      go_wp2_with fail
      go_region
      all_goals
        (try go_wp2_with fail)
        go_ret
        exact ⟨by simp [g], by go_grown⟩
    · have h3 := decide_eq_false g
      rw [h3, Bool.false_and]
      go_enter Try.func16, Try.ntmps16
      go_wp2_with fail
      go_region
      all_goals
        (try go_wp2_with fail)
        go_ret
        exact ⟨rfl, by go_grown⟩
  · rw [if_neg h]
    have h3 := bnf h
    rcases (show e.k = 1 ∨ e.k = 2 ∨ e.k = 3 ∨ e.k = 5 ∨ e.k = 6 ∨ e.k = 7 ∨ e.k = 13 ∨ ¬ (e.k = 1 ∨ e.k = 2 ∨ e.k = 3 ∨ e.k = 5 ∨ e.k = 6 ∨ e.k = 7 ∨ e.k = 13) from by omega) with g | g | g | g | g | g | g | g
    case inr.inr.inr.inr.inr.inr.inr =>
      rw [if_neg g]
      simp only [not_or] at g
      obtain ⟨g1, g2, g3, g5, g6, g7, g13⟩ := g
      go_enter Try.func16, Try.ntmps16
      go_wp2_with fail
      go_ret
      exact ⟨rfl, by go_grown⟩
    all_goals
      rw [if_pos (by omega)]
      go_enter Try.func16, Try.ntmps16
      go_wp2_with fail
      go_ret
      exact ⟨rfl, by go_grown⟩

set_option maxRecDepth 100000 in
set_option maxHeartbeats 2000000 in
theorem stands_any (B : Nat) (s : St) (e : Ev) (w : World) (k2 : w.cell? ⟨B, 2, none⟩ = some (.int .u64 s.state)) :
    Calls Try.prog 17 #[.pointer (some ⟨B, 0, none⟩), evV e] w fun r w' => r = .returned (.bool (standsF s e)) ∧ Below w.heap.size w w' := by
  have hB : B < w.heap.size := World.block_lt_of_cell? _ _ k2
  have hB1 : B ≠ w.heap.size := by omega
  unfold evV standsF
  rcases (show e.k = 14 ∨ e.k = 5 ∨ e.k = 6 ∨ e.k = 8 ∨ (e.k ≠ 14 ∧ e.k ≠ 5 ∧ e.k ≠ 6 ∧ e.k ≠ 8) from by omega) with h | h | h | h | ⟨h, h5, h6, h8⟩
  · rw [if_pos h]
    rcases (show s.state < e.num ∨ ¬ s.state < e.num from by omega) with g | g
    · have h3 := decide_eq_true g
      go_enter Try.func17, Try.ntmps17
      go_wp2_with fail
      go_region
      all_goals
        (try go_wp2_with fail)
        go_ret
        exact ⟨by simp [g], by go_grown⟩
    · have h3 := decide_eq_false g
      rw [h3, Bool.false_and]
      go_enter Try.func17, Try.ntmps17
      go_wp2_with fail
      go_region
      all_goals
        (try go_wp2_with fail)
        go_ret
        exact ⟨rfl, by go_grown⟩
  · rw [if_neg (by omega), if_pos (by omega)]
    go_enter Try.func17, Try.ntmps17
    go_wp2_with fail
    go_ret
    exact ⟨rfl, by go_grown⟩
  · rw [if_neg (by omega), if_pos (by omega)]
    go_enter Try.func17, Try.ntmps17
    go_wp2_with fail
    go_ret
    exact ⟨rfl, by go_grown⟩
  · rw [if_neg (by omega), if_neg (by omega), if_pos h]
    have hc := closing_any e.f
    unfold frV at hc
    by_cases g : s.state = 2
    · go_enter Try.func17, Try.ntmps17
      go_wp2_with (go_at_call 25; refine (hc _).mono ?_; rintro r w' ⟨rfl, hb⟩)
      go_ret
      exact ⟨by simp [g], next2 hb (by go_grown)⟩
    · have g2 := bnt g
      go_enter Try.func17, Try.ntmps17
      go_wp2_with fail
      go_ret
      exact ⟨by simp [g2], by go_grown⟩
  · rw [if_neg h, if_neg (by omega), if_neg h8]
    go_enter Try.func17, Try.ntmps17
    go_wp2_with fail
    go_ret
    exact ⟨rfl, by go_grown⟩

end Go.Proofs.Ytiefkpfjmbifcaa

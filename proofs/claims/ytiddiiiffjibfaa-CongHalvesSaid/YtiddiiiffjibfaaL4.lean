/-
  The law CongHalves: the walk.
-/
import Derived.Test.YtiddiiiffjibfaaBlk
import Derived.Test.YtiddiiiffjibfaaW3
import Derived.Test.YtiddiiiffjibfaaPure
namespace Go.Proofs.Ytiddiiiffjibfaa
open Go.RowKit

theorem halves_E {D s t : Int} (h1 : 2400 ≤ D) (h2 : D ≤ 1099511627776) (ht : s < t) :
    D ≤ ackW ⟨D, D, s, true⟩ 1200 t ∧ ackW ⟨D, D, s, true⟩ 1200 t - D ≤ 600 ∧ ackW ⟨D, D, s, true⟩ 1200 t ≤ 1099511627776 := by
  have hd := div_anti (a := 1440000) (by omega) (b := 2400) (by omega) h1
  have h0 : 0 ≤ 1440000 / D := Int.ediv_nonneg (by omega) (by omega)
  unfold ackW
  rw [if_neg (by simp [recv]; omega), if_neg (by simp), if_neg (by simp; omega)]
  rw [show (1200 * 1200 : Int) = 1440000 from rfl]
  simp only
  unfold mn
  repeat' split
  all_goals omega
theorem room_zero {c : Ctl} (h : 0 ≤ c.w) : roomC c 0 = c.w := by
  unfold roomC mn; split <;> omega

theorem lost_new (a l s : Int) (f : Bool) (t now D : Int) (hc : Word a) (hr : recv s f t = false) (hD : mx (a / 2) 2400 = D) (w : World) :
    Calls Try.prog 14 #[.agg #[.int .u64 a, .int .u64 l, .int .u64 s, .bool f], .int .u64 t, .int .u64 now] w fun e w' => e = .returned (.agg #[.int .u64 D, .int .u64 D, .int .u64 now, .bool true]) ∧ Made3 w w' := by
  have e0 : lostC ⟨a, l, s, f⟩ t now = ⟨D, D, now, true⟩ := by unfold lostC; rw [hr, hD]; simp
  refine (lost_any ⟨a, l, s, f⟩ t now hc w).mono fun e w' ⟨he, hw⟩ => ⟨?_, hw⟩
  rw [he, e0]
theorem acked_new (D s t : Int) (hD : Word D) (w : World) :
    Calls Try.prog 12 #[.agg #[.int .u64 D, .int .u64 D, .int .u64 s, .bool true], .int .u64 1200, .int .u64 t] w fun e w' => e = .returned (.agg #[.int .u64 (ackW ⟨D, D, s, true⟩ 1200 t), .int .u64 D, .int .u64 s, .bool true]) ∧ Made3 w w' :=
  (acked_any ⟨D, D, s, true⟩ 1200 t hD ⟨by omega, by omega⟩ w).mono fun e w' ⟨he, hw⟩ => ⟨he, hw⟩
theorem room_new (E D s : Int) (h0 : 0 ≤ E) (h1 : E < 18446744073709551616) (w : World) :
    Calls Try.prog 16 #[.agg #[.int .u64 E, .int .u64 D, .int .u64 s, .bool true], .int .u64 0] w fun e w' => e = .returned (.int .u64 E) ∧ ∃ c1 : Array Value, w' = w.alloc (.cells c1 24) :=
  (room_any ⟨E, D, s, true⟩ 0 ⟨h0, h1⟩ ⟨by omega, by omega⟩ w).mono fun e w' ⟨he, hw⟩ => ⟨by rw [he, room_zero h0], hw⟩

set_option maxHeartbeats 2000000 in
/-- The walk from the numbers on: the window q, its half D. -/
theorem halves_walk (x y : Int) (f : Bool) (z D : Int) (hx : Word x) (hy : Word y) (hz0 : 0 ≤ z) (hz : z < 65536) (w : World) (h1 : 2400 ≤ D) (h2 : D ≤ 1099511627776)
    (hD : mx ((2400 + x % 1099511625376) / 2) 2400 = D) (hcase : ((2400 + x % 1099511625376) / 2 < 2400 ∧ D = 2400) ∨ (2400 ≤ (2400 + x % 1099511625376) / 2 ∧ (2400 + x % 1099511625376) / 2 = D)) :
    Calls Try.prog 8 #[.int .u64 x, .int .u64 y, .bool f, .int .u16 z] w fun e w' => e = .returned (.bool true) ∧ Below w.heap.size w w' := by
  obtain ⟨hx0, hx1⟩ := hx
  obtain ⟨hy0, hy1⟩ := hy
  have b0 : 0 ≤ y % 1099511627776 := by omega
  have b1 : y % 1099511627776 < 1099511627776 := by omega
  have q0 : 2400 ≤ 2400 + x % 1099511625376 := by omega
  have q1 : 2400 + x % 1099511625376 < 1099511627776 := by omega
  have hDw : Word D := ⟨by omega, by omega⟩
  have hqw : Word (2400 + x % 1099511625376) := ⟨by omega, by omega⟩
  have HD := Lib.hid hD
  clear hD
  have HR : Hid (recv (y % 1099511627776) f (y % 1099511627776 + 1 + z) = false) := by
    show _ = _
    unfold recv; cases f
    · rfl
    · simp; omega
  obtain ⟨u0, u1, u2⟩ := halves_E (s := y % 1099511627776 + 1 + z + 5) (t := y % 1099511627776 + 1 + z + 6) h1 h2 (by omega)
  rcases hcase with ⟨c0, rfl⟩ | ⟨c0, rfl⟩
  · go_enter Try.func8, Try.ntmps8
    go_wp2_with (first | (go_at_call 10; refine (awake_any _).mono ?_; rintro e w1 ⟨rfl, hb⟩) | (go_at_call 14; refine (lost_new _ _ _ _ _ _ 2400 hqw HR.out HD.out _).mono ?_; rintro e w' ⟨rfl, o1, o2, o3, rfl⟩) | (go_at_call 12; refine (acked_new 2400 _ _ hDw _).mono ?_; rintro e w' ⟨rfl, o4, o5, o6, rfl⟩))
    have hB1 : Below w.heap.size w w1 := hb
    have hs1 : w.heap.size ≤ w1.heap.size := hb.size
    clear hb
    generalize ackW _ _ _ = E at *
    have e1 : E < 18446744073709551616 := by omega
    have e0 : 0 ≤ E := by omega
    have t2 : IntKind.u64.wrap (E - 2400) = E - 2400 := IntWalk.u64_in _ (by omega)
    have t1 : decide (2400 ≤ E) = true := decide_eq_true u0
    have t3 : decide (E - 2400 ≤ 600) = true := decide_eq_true u1
    go_region_held3 (fun w' => w'.cell? ⟨w1.heap.size + 1 + 1 + 1 + 1, 0, none⟩ = some (.int .u64 2400) ∧ w'.cell? ⟨w1.heap.size + 1 + 1 + 1 + 1 + 1 + 1 + 1 + 1, 0, none⟩ = some (.int .u64 E) ∧ w'.cell? ⟨w1.heap.size + 1 + 1 + 1 + 1 + 1 + 1 + 1 + 1, 1, none⟩ = some (.int .u64 2400) ∧ w'.cell? ⟨w1.heap.size + 1 + 1 + 1 + 1 + 1 + 1 + 1 + 1, 2, none⟩ = some (.int .u64 (y % 1099511627776 + 1 + z + 5)) ∧ w'.cell? ⟨w1.heap.size + 1 + 1 + 1 + 1 + 1 + 1 + 1 + 1, 3, none⟩ = some (.bool true))
      (simp [go_sem, World.cell?_alloc_past])
      (first | (go_at_call 16; refine (room_new E _ _ e0 e1 _).mono ?_; rintro e w' ⟨rfl, o7, rfl⟩))
    go_wp2
    go_ret
    exact ⟨rfl, by go_grown⟩
  · go_enter Try.func8, Try.ntmps8
    go_wp2_with (first | (go_at_call 10; refine (awake_any _).mono ?_; rintro e w1 ⟨rfl, hb⟩) | (go_at_call 14; refine (lost_new _ _ _ _ _ _ ((2400 + x % 1099511625376) / 2) hqw HR.out HD.out _).mono ?_; rintro e w' ⟨rfl, o1, o2, o3, rfl⟩) | (go_at_call 12; refine (acked_new ((2400 + x % 1099511625376) / 2) _ _ hDw _).mono ?_; rintro e w' ⟨rfl, o4, o5, o6, rfl⟩))
    have hB1 : Below w.heap.size w w1 := hb
    have hs1 : w.heap.size ≤ w1.heap.size := hb.size
    clear hb
    generalize ackW _ _ _ = E at *
    have e1 : E < 18446744073709551616 := by omega
    have e0 : 0 ≤ E := by omega
    have t2 : IntKind.u64.wrap (E - ((2400 + x % 1099511625376) / 2)) = E - ((2400 + x % 1099511625376) / 2) := IntWalk.u64_in _ (by omega)
    have t1 : decide (((2400 + x % 1099511625376) / 2) ≤ E) = true := decide_eq_true u0
    have t3 : decide (E - ((2400 + x % 1099511625376) / 2) ≤ 600) = true := decide_eq_true u1
    go_region_held3 (fun w' => w'.cell? ⟨w1.heap.size + 1 + 1 + 1 + 1, 0, none⟩ = some (.int .u64 ((2400 + x % 1099511625376) / 2)) ∧ w'.cell? ⟨w1.heap.size + 1 + 1 + 1 + 1 + 1 + 1 + 1 + 1, 0, none⟩ = some (.int .u64 E) ∧ w'.cell? ⟨w1.heap.size + 1 + 1 + 1 + 1 + 1 + 1 + 1 + 1, 1, none⟩ = some (.int .u64 ((2400 + x % 1099511625376) / 2)) ∧ w'.cell? ⟨w1.heap.size + 1 + 1 + 1 + 1 + 1 + 1 + 1 + 1, 2, none⟩ = some (.int .u64 (y % 1099511627776 + 1 + z + 5)) ∧ w'.cell? ⟨w1.heap.size + 1 + 1 + 1 + 1 + 1 + 1 + 1 + 1, 3, none⟩ = some (.bool true))
      (simp [go_sem, World.cell?_alloc_past])
      (first | (go_at_call 16; refine (room_new E _ _ e0 e1 _).mono ?_; rintro e w' ⟨rfl, o7, rfl⟩))
    go_wp2
    go_ret
    exact ⟨rfl, by go_grown⟩

theorem halves_any (x y : Int) (f : Bool) (z : Int) (hx : Word x) (hy : Word y) (hz0 : 0 ≤ z) (hz : z < 65536) (w : World) :
    Calls Try.prog 8 #[.int .u64 x, .int .u64 y, .bool f, .int .u16 z] w fun e w' => e = .returned (.bool true) ∧ Below w.heap.size w w' := by
  have h1 := hx.1
  by_cases h : (2400 + x % 1099511625376) / 2 < 2400
  · exact halves_walk x y f z 2400 hx hy hz0 hz w (by omega) (by omega) (by unfold mx; rw [if_pos h]) (Or.inl ⟨h, rfl⟩)
  · exact halves_walk x y f z _ hx hy hz0 hz w (by omega) (by omega) (by unfold mx; rw [if_neg h]) (Or.inr ⟨by omega, rfl⟩)
end Go.Proofs.Ytiddiiiffjibfaa

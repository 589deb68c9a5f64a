/-
  The law RttGrows: the walk.
-/
import Derived.Test.YtipcfpepdmphcaaW6
import Derived.Test.YtipcfpepdmphcaaPure
namespace Go.Proofs.Ytipcfpepdmphcaa
open Go.RowKit

theorem probe_bd {e : Est} (hok : e.Ok) {m : Int} (hm : Word m) (k : Nat) (hk : k ≤ 10) : mn e.sm 1099511627776 ≤ probeE e m k ∧ 0 ≤ probeE e m k ∧ probeE e m k ≤ 9216000000000000 := by
  obtain ⟨z0, z1⟩ := baseE_bd hok hm
  obtain ⟨t0, t1⟩ := two_bd k hk
  have p1 : baseE e m * two k ≤ baseE e m * 1024 := Int.mul_le_mul_of_nonneg_left t1 (by omega)
  have p0 : baseE e m * 1 ≤ baseE e m * two k := Int.mul_le_mul_of_nonneg_left t0 (by omega)
  have hv : mn e.sm 1099511627776 ≤ baseE e m := by
    have := (mx_ge (4 * mn e.va 1099511627776) 1).2
    have h2 := (mn_bd m hm.1).1
    unfold baseE; omega
  show mn e.sm 1099511627776 ≤ baseE e m * two k ∧ 0 ≤ baseE e m * two k ∧ baseE e m * two k ≤ 9216000000000000
  omega
theorem timesN_lo (k : Nat) (h : k ≤ 10) : timesN (k : Int) = k := by
  unfold timesN; rw [if_neg (by omega), if_neg (by omega)]; omega
theorem timesN_hi (t : Int) (h : 10 ≤ t) : timesN t = 10 := by
  unfold timesN; rw [if_neg (by omega)]; split
  · rfl
  · omega
theorem probe_at (e : Est) (hok : e.Ok) (m t : Int) (hm : Word m) (k : Nat) (hk : timesN t = k) (w : World) :
    Calls Try.prog 13 #[.agg #[.int .u64 e.la, .int .u64 e.le, .int .u64 e.sm, .int .u64 e.va, .bool e.kn], .int .u64 m, .int .i64 t] w fun r w' => r = .returned (.int .u64 (probeE e m k)) ∧ Below w.heap.size w w' := by
  subst hk; exact probe_any e hok m t hm w

set_option maxRecDepth 100000 in
set_option maxHeartbeats 8000000 in
theorem grows_any (e : Est) (m : Int) (hok : e.Ok) (hm : Word m) (w : World) :
    Calls Try.prog 7 #[.agg #[.int .u64 e.la, .int .u64 e.le, .int .u64 e.sm, .int .u64 e.va, .bool e.kn], .int .u64 m] w fun r w' => r = .returned (.bool true) ∧ Below w.heap.size w w' := by
  have hwait := wait_ge hok
  have hsm : 0 ≤ e.sm := hok.2.2.1.1
  go_enter Try.func7, Try.ntmps7
  go_wp2_with fail
  refine (awake_any _).mono ?_
  rintro r w1 ⟨rfl, hb⟩
  have hA := Lib.hid ((EB.newAt (w := w) rfl e 24).below hb)
  have hB : Below w.heap.size w w1 := next ((Below.refl _ w).alloc (Nat.le_refl _) _) hb (by simp)
  have z1 := hB.size
  clear hb
  go_wp2_with fail
  go_loopw [5] (fun v wr => ∃ k : Nat, k ≤ 12 ∧ v = .int .i64 k ∧ EB wr w.heap.size e ∧ Below w.heap.size w wr) (fun v _ => 12 - (intOf v).toNat)
  case atStart => exact ⟨0, by omega, by simp, hA.out, hB⟩
  case round =>
    obtain ⟨k, hk, rfl, hE, hB2⟩ := hrel
    have hE0 := Lib.hid hE
    have z2 := hB2.size
    obtain ⟨-, ⟨k0, k1, k2, k3, k4⟩, -⟩ := hE
    have Z0 : Below wr.heap.size wr wr.drew := (Below.refl _ wr).drew
    by_cases hlt : k < 12
    · by_cases h10 : k < 10
      · have hb := Lib.hid (grows_twice (e := e) (m := m) k)
        obtain ⟨p0, p1, p2⟩ := probe_bd hok hm k (by omega)
        have ht1 : timesN ((k : Int) + 1) = k + 1 := by have := timesN_lo (k + 1) (by omega); rwa [Int.natCast_add] at this
        rcases (show (1099511627776 < e.sm ∧ 1099511627776 ≤ probeE e m k) ∨ (e.sm ≤ 1099511627776 ∧ e.sm ≤ probeE e m k) from by unfold mn at p0; split at p0 <;> omega) with ⟨u0, u1⟩ | ⟨u0, u1⟩
        all_goals
          have ht0 := timesN_lo k (by omega)
          have HT0 := Lib.hid ht0
          have hwp : IntKind.i64.wrap ((k : Int) + 1) = (k : Int) + 1 := IntWalk.i64_in _ ⟨by omega, by omega⟩
          have HT1 := Lib.hid (show timesN (IntKind.i64.wrap ((k : Int) + 1)) = k + 1 from by rw [hwp]; exact ht1)
          clear hwp
          clear ht0 ht1
          go_wp2_with fail
          go_region_held3 (fun w' => w'.cell? ⟨w.heap.size, 0, none⟩ = some (.int .u64 e.la) ∧ w'.cell? ⟨w.heap.size, 1, none⟩ = some (.int .u64 e.le) ∧ w'.cell? ⟨w.heap.size, 2, none⟩ = some (.int .u64 e.sm) ∧ w'.cell? ⟨w.heap.size, 3, none⟩ = some (.int .u64 e.va) ∧ w'.cell? ⟨w.heap.size, 4, none⟩ = some (.bool e.kn))
            (refine ⟨cell_later ?_ k0, cell_later ?_ k1, cell_later ?_ k2, cell_later ?_ k3, cell_later ?_ k4⟩ <;> assumption)
            (first
              | (go_at_call 13; (with_reducible refine (probe_at e hok m _ hm k HT0.out wr.drew).mono ?_); rintro r x1 ⟨rfl, hp⟩; have Z1 : Below wr.heap.size wr x1 := next Z0 hp Z0.size)
              | (go_at_call 13; (with_reducible refine (probe_at e hok m _ hm (k + 1) HT1.out _).mono ?_); rintro r x2 ⟨rfl, hp⟩; have Z2 : Below wr.heap.size wr x2 := next Z1 hp Z1.size))
          have hE2 := Lib.hid (hE0.out.below Z2)
          have hB3 := next hB2 Z2 z2
          clear k0 k1 k2 k3 k4
          obtain ⟨-, ⟨k0, k1, k2, k3, k4⟩, -⟩ := hE2.out
          rw [hb.out]
          go_wp2_with fail
          go_roundw
          case rel => exact ⟨k + 1, by omega, by go_num, hE2.out, hB3⟩
          case measure => simp [intOf]; omega
      · obtain ⟨p0, p1, p2⟩ := probe_bd hok hm 10 (by omega)
        have h10' : (10 : Int) ≤ (k : Int) := by omega
        rcases (show (1099511627776 < e.sm ∧ 1099511627776 ≤ probeE e m 10) ∨ (e.sm ≤ 1099511627776 ∧ e.sm ≤ probeE e m 10) from by unfold mn at p0; split at p0 <;> omega) with ⟨u0, u1⟩ | ⟨u0, u1⟩
        all_goals
          have HT0 := Lib.hid (timesN_hi k h10')
          have hwp : IntKind.i64.wrap ((k : Int) + 1) = (k : Int) + 1 := IntWalk.i64_in _ ⟨by omega, by omega⟩
          have HT1 := Lib.hid (show timesN (IntKind.i64.wrap ((k : Int) + 1)) = 10 from by rw [hwp]; exact timesN_hi ((k : Int) + 1) (by omega))
          clear hwp
          clear h10
          go_wp2_with fail
          go_region_held3 (fun w' => w'.cell? ⟨w.heap.size, 0, none⟩ = some (.int .u64 e.la) ∧ w'.cell? ⟨w.heap.size, 1, none⟩ = some (.int .u64 e.le) ∧ w'.cell? ⟨w.heap.size, 2, none⟩ = some (.int .u64 e.sm) ∧ w'.cell? ⟨w.heap.size, 3, none⟩ = some (.int .u64 e.va) ∧ w'.cell? ⟨w.heap.size, 4, none⟩ = some (.bool e.kn))
            (refine ⟨cell_later ?_ k0, cell_later ?_ k1, cell_later ?_ k2, cell_later ?_ k3, cell_later ?_ k4⟩ <;> assumption)
            (first
              | (go_at_call 13; (with_reducible refine (probe_at e hok m _ hm 10 HT0.out wr.drew).mono ?_); rintro r x1 ⟨rfl, hp⟩; have Z1 : Below wr.heap.size wr x1 := next Z0 hp Z0.size)
              | (go_at_call 13; (with_reducible refine (probe_at e hok m _ hm 10 HT1.out _).mono ?_); rintro r x2 ⟨rfl, hp⟩; have Z2 : Below wr.heap.size wr x2 := next Z1 hp Z1.size))
          have hE2 := Lib.hid (hE0.out.below Z2)
          have hB3 := next hB2 Z2 z2
          clear k0 k1 k2 k3 k4
          obtain ⟨-, ⟨k0, k1, k2, k3, k4⟩, -⟩ := hE2.out
          go_wp2_with fail
          go_roundw
          case rel => exact ⟨k + 1, by omega, by go_num, hE2.out, hB3⟩
          case measure => simp [intOf]; omega
    · have HT0 := Lib.hid (show timesN (-5) = 0 from rfl)
      have HT1 := Lib.hid (show timesN 0 = 0 from rfl)
      have hcase : (e.la < e.sm ∧ 1099511627776 < e.sm ∧ 1099511627776 ≤ waitE e) ∨ (e.la < e.sm ∧ e.sm ≤ 1099511627776 ∧ e.sm ≤ waitE e) ∨ (e.sm ≤ e.la ∧ 1099511627776 < e.la ∧ 1099511627776 ≤ waitE e) ∨ (e.sm ≤ e.la ∧ e.la ≤ 1099511627776 ∧ e.la ≤ waitE e) := by
        unfold mn mx at hwait
        split at hwait <;> split at hwait <;> omega
      clear hwait
      rcases hcase with ⟨u0, u1, u2⟩ | ⟨u0, u1, u2⟩ | ⟨u0, u1, u2⟩ | ⟨u0, u1, u2⟩
      all_goals
        have u3 := decide_eq_true u2
        go_wp2_with fail
        go_region_held3 (fun w' => w'.cell? ⟨w.heap.size, 0, none⟩ = some (.int .u64 e.la) ∧ w'.cell? ⟨w.heap.size, 1, none⟩ = some (.int .u64 e.le) ∧ w'.cell? ⟨w.heap.size, 2, none⟩ = some (.int .u64 e.sm) ∧ w'.cell? ⟨w.heap.size, 3, none⟩ = some (.int .u64 e.va) ∧ w'.cell? ⟨w.heap.size, 4, none⟩ = some (.bool e.kn))
          (refine ⟨cell_later ?_ k0, cell_later ?_ k1, cell_later ?_ k2, cell_later ?_ k3, cell_later ?_ k4⟩ <;> assumption)
          (first
            | (go_at_call 13; (with_reducible refine (probe_at e hok m _ hm 0 HT0.out wr.drew).mono ?_); rintro r x1 ⟨rfl, hp⟩; have Z1 : Below wr.heap.size wr x1 := next Z0 hp Z0.size)
            | (go_at_call 13; (with_reducible refine (probe_at e hok m _ hm 0 HT1.out _).mono ?_); rintro r x2 ⟨rfl, hp⟩; have Z2 : Below wr.heap.size wr x2 := next Z1 hp Z1.size)
            | (go_at_call 15; refine (wait_any e hok _).mono ?_; rintro r x3 ⟨rfl, hp⟩; have Z3 : Below wr.heap.size wr x3 := next Z2 hp Z2.size))
        go_wp2_with fail
        all_goals
          go_ret
          exact ⟨rfl, next hB2 Z3 z2⟩
end Go.Proofs.Ytipcfpepdmphcaa

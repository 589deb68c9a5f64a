/-
  The law RttTells: the walk.
-/
import Derived.Test.YtipcfpepdmphcaaW6
import Derived.Test.YtipcfpepdmphcaaW5
import Derived.Test.YtipcfpepdmphcaaPure
namespace Go.Proofs.Ytipcfpepdmphcaa
open Go.RowKit

set_option maxRecDepth 100000 in
set_option maxHeartbeats 8000000 in
theorem tells_any (e : Est) (t d k : Int) (hok : e.Ok) (ht : Word t) (hd : Word d) (hk : k ≤ 9223372036854775807) (w : World) :
    Calls Try.prog 3 #[.agg #[.int .u64 e.la, .int .u64 e.le, .int .u64 e.sm, .int .u64 e.va, .bool e.kn], .int .u64 t, .int .u64 d, .int .i64 k] w fun r w' => r = .returned (.bool true) ∧ Below w.heap.size w w' := by
  have q26 := eql26
  have es := eqE_self
  go_enter Try.func3, Try.ntmps3
  go_wp2_with fail
  refine (awake_any _).mono ?_
  rintro r w1 ⟨rfl, hb⟩
  have hA := Lib.hid ((EB.newAt (w := w) rfl e 24).below hb)
  have hB : Below w.heap.size w w1 := next ((Below.refl _ w).alloc (Nat.le_refl _) _) hb (by simp)
  have z1 := hB.size
  obtain ⟨zz, ⟨k0, k1, k2, k3, k4⟩, -⟩ := hA.out
  go_wp2_with fail
  have hA2 := Lib.hid (hA.out.alloc (.cells #[.int .u64 e.la, .int .u64 e.le, .int .u64 e.sm, .int .u64 e.va, .bool e.kn] 26))
  have hR2 := Lib.hid (EB.newAt (w := w1) rfl e 26)
  have hB2 : Below w.heap.size w (w1.alloc (.cells #[.int .u64 e.la, .int .u64 e.le, .int .u64 e.sm, .int .u64 e.va, .bool e.kn] 26)) := hB.alloc z1 _
  have z2 := hB2.size
  clear k0 k1 k2 k3 k4 zz hb
  generalize w1.alloc (.cells #[.int .u64 e.la, .int .u64 e.le, .int .u64 e.sm, .int .u64 e.va, .bool e.kn] 26) = wb at *
  obtain ⟨-, ⟨k0, k1, k2, k3, k4⟩, -⟩ := hA2.out
  obtain ⟨-, ⟨r0, r1, r2, r3, r4⟩, -⟩ := hR2.out
  have Z0 : Below wb.heap.size wb wb.drew := (Below.refl _ wb).drew
  go_region_held3 (fun w' => w'.cell? ⟨w.heap.size, 0, none⟩ = some (.int .u64 e.la) ∧ w'.cell? ⟨w.heap.size, 1, none⟩ = some (.int .u64 e.le) ∧ w'.cell? ⟨w.heap.size, 2, none⟩ = some (.int .u64 e.sm) ∧ w'.cell? ⟨w.heap.size, 3, none⟩ = some (.int .u64 e.va) ∧ w'.cell? ⟨w.heap.size, 4, none⟩ = some (.bool e.kn) ∧
      w'.cell? ⟨w1.heap.size, 0, none⟩ = some (.int .u64 e.la) ∧ w'.cell? ⟨w1.heap.size, 1, none⟩ = some (.int .u64 e.le) ∧ w'.cell? ⟨w1.heap.size, 2, none⟩ = some (.int .u64 e.sm) ∧ w'.cell? ⟨w1.heap.size, 3, none⟩ = some (.int .u64 e.va) ∧ w'.cell? ⟨w1.heap.size, 4, none⟩ = some (.bool e.kn))
    (refine ⟨cell_later ?_ k0, cell_later ?_ k1, cell_later ?_ k2, cell_later ?_ k3, cell_later ?_ k4, cell_later ?_ r0, cell_later ?_ r1, cell_later ?_ r2, cell_later ?_ r3, cell_later ?_ r4⟩ <;> assumption)
    (first
      | (go_at_call 11; refine (sample_any e _ _ hok ht hd _).mono ?_; rintro r x1 ⟨rfl, hp⟩; have Z1 : Below wb.heap.size wb x1 := next Z0 hp Z0.size)
      | (go_at_call 12; refine (rsample_any e _ _ hok ht hd _).mono ?_; rintro r x2 ⟨rfl, hp⟩; have Z2 : Below wb.heap.size wb x2 := next Z1 hp Z1.size)
      | (go_at_call 13; refine (probe_any e hok _ _ hd _).mono ?_; rintro r x3 ⟨rfl, hp⟩; have Z3 : Below wb.heap.size wb x3 := next Z2 hp Z2.size)
      | (go_at_call 14; refine (rprobe_any e hok _ _ hd hk _).mono ?_; rintro r x4 ⟨rfl, hp⟩; have Z4 : Below wb.heap.size wb x4 := next Z3 hp Z3.size)
      | (go_at_call 15; refine (wait_any e hok _).mono ?_; rintro r x5 ⟨rfl, hp⟩; have Z5 : Below wb.heap.size wb x5 := next Z4 hp Z4.size)
      | (go_at_call 16; refine (rwait_any e hok _).mono ?_; rintro r x6 ⟨rfl, hp⟩; have Z6 : Below wb.heap.size wb x6 := next Z5 hp Z5.size))
  go_wp2_with fail
  go_ret
  exact ⟨rfl, next hB2 Z6 z2⟩
end Go.Proofs.Ytipcfpepdmphcaa

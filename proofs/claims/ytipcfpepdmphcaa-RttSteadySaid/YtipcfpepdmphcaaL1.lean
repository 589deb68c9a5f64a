/-
  The law RttSteady: the walk.
-/
import Derived.Test.YtipcfpepdmphcaaW6
import Derived.Test.YtipcfpepdmphcaaPure
namespace Go.Proofs.Ytipcfpepdmphcaa
open Go.RowKit

set_option maxRecDepth 100000 in
set_option maxHeartbeats 4000000 in
theorem steady_any (t : Int) (h0 : 0 ≤ t) (_h1 : t < 18446744073709551616) (w : World) :
    Calls Try.prog 6 #[.int .u64 t] w fun r w' => r = .returned (.bool true) ∧ Below w.heap.size w w' := by
  go_enter Try.func6, Try.ntmps6
  go_wp2_with (first | (go_at_call 10; refine (awake_any _).mono ?_; rintro r w1 ⟨rfl, hb⟩) | (go_at_call 17; refine (first_any _).mono ?_; rintro r w' ⟨rfl, c1, rfl⟩))
  have hs1 : w.heap.size ≤ w1.heap.size := hb.size
  have b0 : 0 ≤ t % 1099511627777 := by omega
  have b1 : t % 1099511627777 ≤ 1099511627776 := by omega
  generalize t % 1099511627777 = q at *
  go_loopw [4, 5] (fun u v wr => ∃ (j : Nat) (wv : Int) (e : Est), j ≤ 200 ∧ v = .int .i64 j ∧ u = .int .u64 wv ∧ StR q j wv e ∧ EB wr (w1.heap.size + 1) e ∧ Below w.heap.size w wr) (fun _ v _ => 200 - (intOf v).toNat)
  case atStart => exact ⟨0, q, ⟨0, 0, 333, 166, false⟩, by omega, by simp, rfl, Or.inl ⟨rfl, rfl, rfl⟩, EB.newAt (by simp) ⟨0, 0, 333, 166, false⟩ 24, by go_grown⟩
  case round =>
    obtain ⟨j, wv, e, hj, rfl, rfl, hst, hk, hB⟩ := hrel
    have hs2 : w.heap.size ≤ wr.heap.size := hB.size
    have hk0 := Lib.hid hk
    obtain ⟨-, ⟨k0, k1, k2, k3, k4⟩, -⟩ := hk
    by_cases hlt : j < 200
    · obtain ⟨hok, nv, hsm, n0, n1, hst2⟩ := steady_round b0 b1 hst
      have hS := Lib.hid hsm
      have hT := Lib.hid hst2
      clear hst hsm hst2
      go_wp2_with (first | (go_at_call 11; refine (sample_any e _ _ hok ⟨b0, by omega⟩ (word_lit (by omega) (by omega)) _).mono ?_; rintro r w' ⟨rfl, hp⟩; rw [hS.out]; have hq := Lib.hid (hk0.out.below hp); have hB2 := next hB hp hs2; obtain ⟨-, ⟨m0, m1, m2, m3, m4⟩, ⟨f0, f1, f2, f3, f4⟩⟩ := hq.out; clear hp))
      go_roundw
      case rel => exact ⟨j + 1, nv, ⟨q, q, q, nv, true⟩, by omega, by go_num, rfl, hT.out, hq.out.store (d := ⟨q, q, q, nv, true⟩), by go_grown⟩
      case measure => simp [intOf]; omega
    · obtain rfl : j = 200 := by omega
      have hend := steady_end hst
      clear hst
      go_wp2_with fail
      go_ret
      exact ⟨rfl, hB⟩
end Go.Proofs.Ytipcfpepdmphcaa

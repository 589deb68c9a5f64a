/-
  The law CongSlow: the walk.
-/
import Derived.Test.YtiddiiiffjibfaaBlk
import Derived.Test.YtiddiiiffjibfaaPure
namespace Go.Proofs.Ytiddiiiffjibfaa
open Go.RowKit

set_option maxHeartbeats 1000000 in
theorem slow_any (x : Int) (h0 : 0 ≤ x) (h1 : x < 4294967296) (w : World) :
    Calls Try.prog 7 #[.int .u32 x] w fun e w' => e = .returned (.bool true) ∧ Below w.heap.size w w' := by
  go_enter Try.func7, Try.ntmps7
  go_wp2_with (first | (go_at_call 10; refine (awake_any _).mono ?_; rintro e w1 ⟨rfl, hb⟩))
  have hB1 : Below w.heap.size w w1 := hb
  have hs1 : w.heap.size ≤ w1.heap.size := hb.size
  have b0 : 2400 ≤ x % 1048576 + 2400 := by omega
  have b1 : x % 1048576 + 2400 < 1050976 := by omega
  generalize x % 1048576 + 2400 = q at *
  clear hb
  go_loopw [5] (fun v wr => ∃ j : Nat, 1200 * (j : Int) ≤ q ∧ v = .int .u64 (q - 1200 * j) ∧ Blk wr w1.heap.size (slowC q j) ∧ Below w.heap.size w wr) (fun v _ => (intOf v).toNat)
  case atStart => exact ⟨0, by omega, by simp, Blk.new w1 (slowC q 0) 24, hB1.alloc hs1 _⟩
  case round =>
    obtain ⟨j, hj, rfl, hk, hB⟩ := hrel
    obtain ⟨i1, i2, i3, i4, i5, i6⟩ := slow_inv q b0 b1 j hj
    have hok : Word (slowC q j).w := ⟨by omega, by omega⟩
    have hk0 := Lib.hid hk
    obtain ⟨⟨k0, k1, k2, k3⟩, ⟨f0, f1, f2, f3⟩, _⟩ := hk.reads
    clear i1 i2 i3 i5 hk
    have hs2 : w.heap.size ≤ wr.heap.size := hB.size
    by_cases hlt : 1200 ≤ q - 1200 * j
    · go_wp2_with (first | (go_at_call 12; refine (acked_any (slowC q j) _ _ hok (by unfold Word; omega) _).mono ?_; rintro e w' ⟨rfl, c1, c2, c3, rfl⟩; obtain ⟨⟨m0, m1, m2, m3⟩, ⟨g0, g1, g2, g3⟩, _⟩ := (((hk0.out.alloc (.cells c1 24)).alloc (.cells c2 24)).alloc (.cells c3 24)).reads))
      go_roundw
      case rel =>
        refine ⟨j + 1, by omega, by go_num, ((((hk0.out).alloc _).alloc _).alloc _).store (d := slowC q (j + 1)), ?_⟩
        go_grown
      case measure => simp [intOf]; omega
    · go_wp2
      go_ret
      exact ⟨rfl, hB⟩
end Go.Proofs.Ytiddiiiffjibfaa

/-
  The law CongQuick: the walk.
-/
import Derived.Test.YtiddiiiffjibfaaBlk
import Derived.Test.YtiddiiiffjibfaaW3
import Derived.Test.YtiddiiiffjibfaaPure
namespace Go.Proofs.Ytiddiiiffjibfaa
open Go.RowKit

/-- A slice of numbers of one kind that came in. -/
def Nums (K : IntKind) (w : World) (B : Nat) (A : Option Addr) (n : Nat) (x : Nat → Int) : Prop :=
  ∀ k, k < n → ∃ b off, A = some ⟨b, off, none⟩ ∧ b < B ∧ w.cell? ⟨b, off + k, none⟩ = some (.int K (x k))
theorem Nums.below {K : IntKind} {w w' : World} {B : Nat} {A : Option Addr} {n : Nat} {x : Nat → Int} (h : Nums K w B A n x) (hb : Below B w w') : Nums K w' B A n x := fun k hk => by
  obtain ⟨b, off, e, hB, h0⟩ := h k hk
  exact ⟨b, off, e, hB, (hb.cell hB).trans h0⟩

/-- The sum of the first j sizes. -/
def sumQ (x : Nat → Int) : Nat → Int
  | 0 => 12000
  | j + 1 => sumQ x j + x j % 1048576
theorem sumQ_bd (x : Nat → Int) (j : Nat) : 12000 ≤ sumQ x j ∧ sumQ x j ≤ 12000 + 1048576 * j := by
  induction j with
  | zero => simp [sumQ]
  | succ j ih => simp only [sumQ]; omega
theorem quick_step (S y t : Int) (h0 : 12000 ≤ S) (h1 : S ≤ 1000000000) : ackC ⟨S, 1099511627776, 0, false⟩ (y % 1048576) t = ⟨S + y % 1048576, 1099511627776, 0, false⟩ := by
  have e : ackW ⟨S, 1099511627776, 0, false⟩ (y % 1048576) t = S + y % 1048576 := by
    unfold ackW
    rw [if_neg (by simp [recv]; omega), if_pos (by simp; omega)]
    simp only
    unfold mn
    repeat' split
    all_goals omega
  unfold ackC
  rw [e]
theorem quick_ack (S y t : Int) (h0 : 12000 ≤ S) (h1 : S ≤ 1000000000) (w : World) :
    Calls Try.prog 12 #[.agg #[.int .u64 S, .int .u64 1099511627776, .int .u64 0, .bool false], .int .u64 (y % 1048576), .int .u64 t] w fun e w' => e = .returned (.agg #[.int .u64 (S + y % 1048576), .int .u64 1099511627776, .int .u64 0, .bool false]) ∧ Made3 w w' :=
  (acked_any ⟨S, 1099511627776, 0, false⟩ (y % 1048576) t ⟨by simp; omega, by simp; omega⟩ ⟨by omega, by omega⟩ w).mono fun e w' ⟨he, hw⟩ => ⟨by rw [he, quick_step S y t h0 h1], hw⟩
theorem quick_room (S : Int) (h0 : 12000 ≤ S) (h1 : S ≤ 1000000000) (w : World) :
    Calls Try.prog 16 #[.agg #[.int .u64 S, .int .u64 1099511627776, .int .u64 0, .bool false], .int .u64 S] w fun e w' => e = .returned (.int .u64 0) ∧ ∃ c1 : Array Value, w' = w.alloc (.cells c1 24) :=
  (room_any ⟨S, 1099511627776, 0, false⟩ S ⟨by simp; omega, by simp; omega⟩ ⟨by omega, by omega⟩ w).mono fun e w' ⟨he, hw⟩ => ⟨by rw [he]; exact ret_u64 (by simp [roomC, mn]), hw⟩

set_option maxRecDepth 100000 in
set_option maxHeartbeats 1000000 in
theorem quick_any (A : Option Addr) (n cap : Nat) (x : Nat → Int) (w : World) (hx : Nums .u32 w w.heap.size A n x) (hxb : ∀ k, k < n → 0 ≤ x k ∧ x k < 4294967296) (hn : n ≤ 9223372036854775807) :
    Calls Try.prog 9 #[.slice A n cap] w fun e w' => e = .returned (.bool true) ∧ Below w.heap.size w w' := by
  go_enter Try.func9, Try.ntmps9
  go_wp2_with (first | (go_at_call 10; refine (awake_any _).mono ?_; rintro e w1 ⟨rfl, hb⟩) | (go_at_call 18; refine (first_any _).mono ?_; rintro e w' ⟨rfl, c1, rfl⟩))
  have hs1 : w.heap.size ≤ w1.heap.size := hb.size
  go_loopw [4, 5] (fun u v wr => ∃ j : Nat, j ≤ n ∧ j ≤ 200 ∧ v = .int .i64 j ∧ u = .int .u64 (sumQ x j) ∧ Blk wr (w1.heap.size + 1) ⟨sumQ x j, 1099511627776, 0, false⟩ ∧ Below w.heap.size w wr) (fun _ v _ => n - (intOf v).toNat)
  case atStart => exact ⟨0, by omega, by omega, by simp, rfl, Blk.newAt (by simp) ⟨12000, 1099511627776, 0, false⟩ 24, by go_grown⟩
  case round =>
    obtain ⟨j, hj, hj2, rfl, rfl, hk, hB⟩ := hrel
    have hx2 := hx.below hB
    obtain ⟨s0, s1⟩ := sumQ_bd x j
    have s2 : sumQ x j ≤ 1000000000 := by omega
    have hs2 : w.heap.size ≤ wr.heap.size := hB.size
    have hk0 := Lib.hid hk
    obtain ⟨⟨k0, k1, k2, k3⟩, ⟨f0, f1, f2, f3⟩, _⟩ := hk.reads
    simp only at k0 k1 k2 k3
    by_cases hlt : j < n
    · by_cases h200 : j < 200
      · obtain ⟨b, off, rfl, hbB, a0⟩ := hx2 j hlt
        obtain ⟨y0, y1⟩ := hxb j hlt
        have hsum : sumQ x (j + 1) = sumQ x j + x j % 1048576 := rfl
        have hS := Lib.hid hsum
        clear hx2 hk hsum hx hxb
        go_wp2_with (first | (go_at_call 12; refine (quick_ack _ _ _ s0 s2 _).mono ?_; rintro e w' ⟨rfl, c1, c2, c3, rfl⟩; obtain ⟨⟨m0, m1, m2, m3⟩, ⟨g0, g1, g2, g3⟩, _⟩ := (((hk0.out.alloc (.cells c1 24)).alloc (.cells c2 24)).alloc (.cells c3 24)).reads))
        go_roundw
        case rel =>
          refine ⟨j + 1, by omega, by omega, by go_num, by rw [hS.out], ?_, by go_grown⟩
          rw [hS.out]
          exact (((hk0.out.alloc _).alloc _).alloc _).store (d := ⟨sumQ x j + x j % 1048576, 1099511627776, 0, false⟩)
        case measure => simp [intOf]; omega
      · have h200' : (200 : Int) ≤ (j : Int) := by omega
        go_wp2_with (first | (go_at_call 16; refine (quick_room _ s0 s2 _).mono ?_; rintro e w' ⟨rfl, c1, rfl⟩))
        go_ret
        exact ⟨rfl, by go_grown⟩
    · go_wp2_with (first | (go_at_call 16; refine (quick_room _ s0 s2 _).mono ?_; rintro e w' ⟨rfl, c1, rfl⟩))
      go_ret
      exact ⟨rfl, by go_grown⟩
end Go.Proofs.Ytiddiiiffjibfaa

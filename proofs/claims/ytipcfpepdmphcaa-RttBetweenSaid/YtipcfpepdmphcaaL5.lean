/-
  The law RttBetween: the walk.
-/
import Derived.Test.YtipcfpepdmphcaaW6
import Derived.Test.YtipcfpepdmphcaaPure
import Derived.Test.YtipcfpepdmphcaaL4
import Derived.Deep.RegionWith
import Derived.Deep.DeepCutAuto
namespace Go.Proofs.Ytipcfpepdmphcaa
open Go.RowKit

theorem u64_eq {a b : Int} (h : a = b) : Value.int .u64 a = Value.int .u64 b := by rw [h]
/-- The times as they are looked at. -/
def cutT (t : Int) : Int := t % 1099511627777
def lowT (x : Nat → Int × Int) : Nat → Int
  | 0 => 0
  | 1 => cutT (x 0).1
  | j + 2 => mn (lowT x (j + 1)) (cutT (x (j + 1)).1)
def highT (x : Nat → Int × Int) : Nat → Int
  | 0 => 0
  | j + 1 => mx (highT x j) (cutT (x j).1)
def btwE (x : Nat → Int × Int) : Nat → Est
  | 0 => ⟨0, 0, 333, 166, false⟩
  | j + 1 => sampleE (btwE x j) (cutT (x j).1) (x j).2
theorem cutT_bd (t : Int) : 0 ≤ cutT t ∧ cutT t ≤ 1099511627776 := by unfold cutT; omega
theorem btw_all {n : Nat} {x : Nat → Int × Int} (h : ∀ k, k < n → Word (x k).1 ∧ Word (x k).2) : ∀ j, j < n → Btw (btwE x (j + 1)) (lowT x (j + 1)) (highT x (j + 1)) ∧ (btwE x (j + 1)).la = cutT (x j).1
  | 0, hj => by
    obtain ⟨c0, c1⟩ := cutT_bd (x 0).1
    obtain ⟨g1, g2⟩ := btw_first (t := cutT (x 0).1) (d := (x 0).2) c0 c1
    refine ⟨?_, g2⟩
    have e : highT x 1 = cutT (x 0).1 := by show mx 0 (cutT (x 0).1) = _; unfold mx; split <;> omega
    rw [e]
    exact g1
  | j + 1, hj => by
    obtain ⟨c0, c1⟩ := cutT_bd (x (j + 1)).1
    obtain ⟨ih, -⟩ := btw_all h j (by omega)
    exact btw_step ih c0 c1 (h (j + 1) hj).2.1
theorem btwE_ok {n : Nat} {x : Nat → Int × Int} (h : ∀ k, k < n → Word (x k).1 ∧ Word (x k).2) : ∀ j, j ≤ n → (btwE x j).Ok
  | 0, _ => first_ok
  | j + 1, hj => (btw_all h j (by omega)).1.1
theorem lowT_next (x : Nat → Int × Int) (j : Nat) (hj : 0 < j) : lowT x (j + 1) = mn (lowT x j) (cutT (x j).1) := by
  cases j with
  | zero => omega
  | succ j => rfl

set_option maxRecDepth 100000 in
set_option maxHeartbeats 16000000 in
theorem between_any (A : Option Addr) (n cap : Nat) (x : Nat → Int × Int) (w : World) (hx : Prs w w.heap.size A n x) (hn : n ≤ 9223372036854775807) :
    Calls Try.prog 5 #[.slice A n cap] w fun r w' => r = .returned (.bool true) ∧ Below w.heap.size w w' := by
  go_enter Try.func5, Try.ntmps5
  go_wp2_with (first | (go_at_call 10; refine (awake_any _).mono ?_; rintro r w1 ⟨rfl, hb⟩) | (go_at_call 17; refine (first_any _).mono ?_; rintro r w' ⟨rfl, c1, rfl⟩))
  have hs1 : w.heap.size ≤ w1.heap.size := hb.size
  go_loopw [4, 5, 6] (fun u4 u5 v wr => ∃ j : Nat, j ≤ n ∧ j ≤ 100 ∧ v = .int .i64 j ∧ u4 = .int .u64 (lowT x j) ∧ u5 = .int .u64 (highT x j) ∧ EB wr (w1.heap.size + 1) (btwE x j) ∧ Below w.heap.size w wr) (fun _ _ v _ => n - (intOf v).toNat)
  case atStart => exact ⟨0, by omega, by omega, by simp, rfl, rfl, EB.newAt (by simp) ⟨0, 0, 333, 166, false⟩ 24, by go_grown⟩
  case round =>
    obtain ⟨j, hj, hj2, rfl, rfl, rfl, hk, hB⟩ := hrel
    have hx2 := hx.below hB
    have hok := btwE_ok hx.ok j hj
    have hs2 : w.heap.size ≤ wr.heap.size := hB.size
    have hk0 := Lib.hid hk
    by_cases hlt : j < n ∧ j < 100
    · obtain ⟨hlt, h100⟩ := hlt
      obtain ⟨hbt, hla⟩ := btw_all hx.ok j hlt
      obtain ⟨b, off, rfl, hbB, a0, a1, wx0, wx1⟩ := hx2 j hlt
      have hx0 : 0 ≤ (x j).1 := wx0.1
      obtain ⟨-, ⟨k0, k1, k2, k3, k4⟩, ⟨f0, f1, f2, f3, f4⟩⟩ := hk
      clear hx2
      have hE : Hid (btwE x (j + 1) = sampleE (btwE x j) ((x j).1 % 1099511627777) (x j).2) := rfl
      have hH : Hid (highT x (j + 1) = mx (highT x j) ((x j).1 % 1099511627777)) := rfl
      have hL : Hid (lowT x (j + 1) = if j = 0 then (x j).1 % 1099511627777 else mn (lowT x j) ((x j).1 % 1099511627777)) := by
        show _ = _
        by_cases h0 : j = 0
        · rw [if_pos h0, h0]; rfl
        · rw [if_neg h0, lowT_next x j (by omega)]; rfl
      obtain ⟨-, -, q0, q1, q2, q3, q4, q5, q6, q7⟩ := hbt
      have hla2 : (btwE x (j + 1)).la = (x j).1 % 1099511627777 := hla
      have t0 : 0 ≤ (x j).1 % 1099511627777 := by omega
      have t1 : (x j).1 % 1099511627777 ≤ 1099511627776 := by omega
      have Q := Lib.hid (And.intro hla2 (And.intro q3 q7))
      have hM : Hid (∀ x y, mn x y = if y < x then y else x) := fun _ _ => rfl
      have hX : Hid (∀ x y, mx x y = if x < y then y else x) := fun _ _ => rfl
      clear hla hla2 q3 q7
      have hj0 : ((j : Int) == 0) = true ∧ Hid (lowT x (j + 1) = mn ((x j).1 % 1099511627777) ((x j).1 % 1099511627777)) ∨ ((j : Int) == 0) = false ∧ Hid (lowT x (j + 1) = mn (lowT x j) ((x j).1 % 1099511627777)) := by
        by_cases h0 : j = 0
        · left; refine ⟨by simp [h0], ?_⟩
          show _ = _
          rw [hL.out, if_pos h0, mn_self]
        · right; refine ⟨by simp; omega, ?_⟩
          show _ = _
          rw [hL.out, if_neg h0]
      rcases hj0 with ⟨hj0, hL1⟩ | ⟨hj0, hL1⟩
      all_goals
        go_upto_region 11 with fail
        go_cut [4, 5] (fun s4 s5 wx => s4 = .int .u64 (lowT x (j + 1)) ∧ s5 = .int .u64 (highT x (j + 1)) ∧ wx = wr)
        case first =>
          go_wp2_with fail
          all_goals go_meet
          all_goals exact ⟨u64_eq (by rw [hL1.out, hM.out]; split <;> omega), u64_eq (by rw [hH.out, hX.out]; split <;> omega), rfl⟩
        case rest =>
          obtain ⟨rfl, rfl, rfl⟩ := hcut
          go_upto_region 12 with fail
          go_cut [] (fun wx => EB wx (w1.heap.size + 1) (btwE x (j + 1)) ∧ Below w.heap.size w wx)
          case first =>
            go_region_with (go_at_call 11; refine (sample_any (btwE x j) _ _ hok ⟨t0, by omega⟩ wx1 _).mono ?_; rintro r w' ⟨rfl, hp⟩; have hp1 := below_drew hp; have hq := Lib.hid (hk0.out.below hp1); have hBB := next hB hp1 hs2; obtain ⟨-, ⟨m0, m1, m2, m3, m4⟩, ⟨g0, g1, g2, g3, g4⟩⟩ := hq.out; clear hp)
            all_goals
              go_wp2_with fail
              go_meet
              exact ⟨by rw [hE.out]; exact hq.out.store, below_set5 hBB (by omega) _ _ _ _ _⟩
          case rest =>
            obtain ⟨hd, hB2⟩ := hcut
            have hd0 := Lib.hid hd
            obtain ⟨q8, q9, q10⟩ := Q.out
            clear k0 k1 k2 k3 k4 f0 f1 f2 f3 f4 hk0 a0 a1
            obtain ⟨-, ⟨k0, k1, k2, k3, k4⟩, -⟩ := hd
            rw [q8] at k0
            rw [q9] at k1
            rw [q10] at k4
            clear q8 q9 q10
            go_wp2_with fail
            go_roundw
            case rel => exact ⟨j + 1, by omega, by omega, by go_num, rfl, rfl, hd0.out, hB2⟩
            case measure => simp [intOf]; omega
    · have hex : n ≤ j ∨ (j < n ∧ (100 : Int) ≤ (j : Int)) := by omega
      clear hlt hk hx2
      rcases hex with hex | ⟨hex, hex2⟩
      all_goals
        go_wp2_with fail
        go_ret
        exact ⟨rfl, hB⟩
end Go.Proofs.Ytipcfpepdmphcaa

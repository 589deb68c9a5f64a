/-
  The law RttSamples: the walk.
-/
import Derived.Test.YtipcfpepdmphcaaW6
import Derived.Test.YtipcfpepdmphcaaW5
import Derived.Test.YtipcfpepdmphcaaPure
import Derived.Test.YtipcfpepdmphcaaL4
import Derived.Deep.RegionWith
import Derived.Deep.DeepCutAuto
namespace Go.Proofs.Ytipcfpepdmphcaa
open Go.RowKit

/-- The estimate after j samples. -/
def seqE (x : Nat → Int × Int) : Nat → Est
  | 0 => firstE
  | j + 1 => sampleE (seqE x j) (x j).1 (x j).2
theorem seq_ok {n : Nat} {x : Nat → Int × Int} (h : ∀ k, k < n → Word (x k).1 ∧ Word (x k).2) : ∀ j, j ≤ n → (seqE x j).Ok
  | 0, _ => first_ok
  | j + 1, hj => sample_ok (seq_ok h j (by omega)) (h j (by omega)).1.1 (h j (by omega)).2.1
set_option maxRecDepth 100000 in
set_option maxHeartbeats 16000000 in
theorem samples_any (A : Option Addr) (n cap : Nat) (x : Nat → Int × Int) (w : World) (hx : Prs w w.heap.size A n x) (hn : n ≤ 9223372036854775807) :
    Calls Try.prog 4 #[.slice A n cap] w fun r w' => r = .returned (.bool true) ∧ Below w.heap.size w w' := by
  go_enter Try.func4, Try.ntmps4
  go_wp2_with (first | (go_at_call 10; refine (awake_any _).mono ?_; rintro r w1 ⟨rfl, hb⟩) | (go_at_call 17; refine (first_any _).mono ?_; rintro r w' ⟨rfl, c1, rfl⟩))
  have hs1 : w.heap.size ≤ w1.heap.size := hb.size
  go_loopw [5] (fun v wr => ∃ j : Nat, j ≤ n ∧ j ≤ 100 ∧ v = .int .i64 j ∧ EB wr (w1.heap.size + 1) (seqE x j) ∧ EB wr (w1.heap.size + 1 + 1) (seqE x j) ∧ Below w.heap.size w wr) (fun v _ => n - (intOf v).toNat)
  case atStart => exact ⟨0, by omega, by omega, by simp, (EB.newAt (by simp) firstE 24).alloc _, EB.newAt (by simp) firstE 26, by go_grown⟩
  case round =>
    obtain ⟨j, hj, hj2, rfl, hk, hr, hB⟩ := hrel
    have hx2 := hx.below hB
    have hok := seq_ok hx.ok j hj
    have hs2 : w.heap.size ≤ wr.heap.size := hB.size
    have hk0 := Lib.hid hk
    have hr0 := Lib.hid hr
    have hne1 : w1.heap.size + 1 ≠ w1.heap.size + 1 + 1 := by omega
    by_cases hlt : j < n ∧ j < 100
    · obtain ⟨hlt, h100⟩ := hlt
      obtain ⟨b, off, rfl, hbB, a0, a1, wx0, wx1⟩ := hx2 j hlt
      obtain ⟨-, ⟨k0, k1, k2, k3, k4⟩, ⟨f0, f1, f2, f3, f4⟩⟩ := hk
      clear hx2 hr
      go_upto_region 8 with fail
      go_cut [] (fun wx => EB wx (w1.heap.size + 1) (sampleE (seqE x j) (x j).1 (x j).2) ∧ EB wx (w1.heap.size + 1 + 1) (seqE x j) ∧ Below w.heap.size w wx)
      case first =>
        go_region_with (go_at_call 11; refine (sample_any (seqE x j) _ _ hok wx0 wx1 _).mono ?_; rintro r w' ⟨rfl, hp⟩; have hp1 := below_drew hp; have hq := Lib.hid (hk0.out.below hp1); have hqr := Lib.hid (hr0.out.below hp1); have hBB := next hB hp1 hs2; obtain ⟨-, ⟨m0, m1, m2, m3, m4⟩, ⟨g0, g1, g2, g3, g4⟩⟩ := hq.out; clear hp)
        all_goals
          go_wp2_with fail
          go_meet
          exact ⟨hq.out.store, hqr.out.far5 (Ne.symm hne1) _ _ _ _ _, below_set5 hBB (by omega) _ _ _ _ _⟩
      case rest =>
        obtain ⟨hd, hr', hB2⟩ := hcut
        have hs3 := hB2.size
        have hd0 := Lib.hid hd
        have hr1 := Lib.hid hr'
        have a0' := (hx.below hB2)
        obtain ⟨b', off', he, -, c0, c1', -, -⟩ := a0' j hlt
        injection he with he
        injection he with he1 he2
        subst he1 he2
        clear hk0 hr0 k0 k1 k2 k3 k4 f0 f1 f2 f3 f4 a0 a1 hd a0'
        obtain ⟨-, ⟨k0, k1, k2, k3, k4⟩, ⟨f0, f1, f2, f3, f4⟩⟩ := hr'
        go_upto_region 9 with fail
        go_cut [] (fun wx => EB wx (w1.heap.size + 1) (seqE x (j + 1)) ∧ EB wx (w1.heap.size + 1 + 1) (seqE x (j + 1)) ∧ Below w.heap.size w wx)
        case first =>
          go_region_with (go_at_call 12; refine (rsample_any (seqE x j) _ _ hok wx0 wx1 _).mono ?_; rintro r w' ⟨rfl, hp⟩; have hp1 := below_drew hp; have hq := Lib.hid (hr1.out.below hp1); have hqr := Lib.hid (hd0.out.below hp1); have hBB := next hB2 hp1 hs3; obtain ⟨-, ⟨m0, m1, m2, m3, m4⟩, ⟨g0, g1, g2, g3, g4⟩⟩ := hq.out; clear hp)
          all_goals
            go_wp2_with fail
            go_meet
            exact ⟨hqr.out.far5 hne1 _ _ _ _ _, hq.out.store, below_set5 hBB (by omega) _ _ _ _ _⟩
        case rest =>
          obtain ⟨hd2, hr2, hB3⟩ := hcut
          have hd3 := Lib.hid hd2
          have hr3 := Lib.hid hr2
          clear hd0 hr1 k0 k1 k2 k3 k4 f0 f1 f2 f3 f4 c0 c1'
          obtain ⟨-, ⟨k0, k1, k2, k3, k4⟩, -⟩ := hd2
          obtain ⟨-, ⟨r0, r1, r2, r3, r4⟩, -⟩ := hr2
          have q26 := neq26
          have es := eqE_self
          go_wp2_with fail
          go_roundw
          case rel => exact ⟨j + 1, by omega, by omega, by go_num, hd3.out, hr3.out, hB3⟩
          case measure => simp [intOf]; omega
    · have hex : n ≤ j ∨ (j < n ∧ (100 : Int) ≤ (j : Int)) := by omega
      clear hlt hk hx2 hr
      rcases hex with hex | ⟨hex, hex2⟩
      all_goals
        go_wp2_with fail
        go_ret
        exact ⟨rfl, hB⟩
end Go.Proofs.Ytipcfpepdmphcaa

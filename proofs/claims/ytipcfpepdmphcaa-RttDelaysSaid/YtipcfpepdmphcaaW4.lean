/-
  When to probe, in the program and in its reference: the walks.
-/
import Derived.Test.YtipcfpepdmphcaaW3
namespace Go.Proofs.Ytipcfpepdmphcaa
open Go.RowKit

theorem two_bd (k : Nat) (hk : k ≤ 10) : 1 ≤ two k ∧ two k ≤ 1024 := by
  have : k = 0 ∨ k = 1 ∨ k = 2 ∨ k = 3 ∨ k = 4 ∨ k = 5 ∨ k = 6 ∨ k = 7 ∨ k = 8 ∨ k = 9 ∨ k = 10 := by omega
  rcases this with rfl | rfl | rfl | rfl | rfl | rfl | rfl | rfl | rfl | rfl | rfl <;> decide
theorem two_pow (k : Nat) : two k = 2 ^ k := by
  induction k with
  | zero => rfl
  | succ k ih => rw [two, ih, Int.pow_succ]
theorem shl_val (X : Int) (k : Nat) (h0 : 0 ≤ X) (h1 : X ≤ 9000000000000) (hk : k ≤ 10) : IntKind.u64.wrap (X * 2 ^ k) = X * two k := by
  obtain ⟨t0, t1⟩ := two_bd k hk
  rw [← two_pow]
  have e1 : X * two k ≤ X * 1024 := Int.mul_le_mul_of_nonneg_left t1 h0
  have e0 : 0 ≤ X * two k := Int.mul_nonneg h0 (by omega)
  exact IntWalk.u64_in _ ⟨e0, by omega⟩
theorem timesN_le (t : Int) : timesN t ≤ 10 := by
  unfold timesN
  split
  · omega
  · split <;> omega
/-- What is doubled. -/
def baseE (e : Est) (m : Int) : Int := mn e.sm 1099511627776 + mx (4 * mn e.va 1099511627776) 1 + mn m 1099511627776
theorem baseE_bd {e : Est} (hok : e.Ok) {m : Int} (hm : Word m) : 1 ≤ baseE e m ∧ baseE e m ≤ 9000000000000 := by
  obtain ⟨⟨a0, a1⟩, ⟨b0, b1⟩, ⟨c0, c1⟩, v0, v1⟩ := hok
  obtain ⟨m0, m1⟩ := hm
  unfold baseE mn mx
  repeat' split
  all_goals omega

set_option maxRecDepth 100000 in
set_option maxHeartbeats 8000000 in
theorem probe_any (e : Est) (hok : e.Ok) (m t : Int) (hm : Word m) (w : World) :
    Calls Try.prog 13 #[.agg #[.int .u64 e.la, .int .u64 e.le, .int .u64 e.sm, .int .u64 e.va, .bool e.kn], .int .u64 m, .int .i64 t] w fun r w' => r = .returned (.int .u64 (probeE e m (timesN t))) ∧ Below w.heap.size w w' := by
  obtain ⟨z0, z1⟩ := baseE_bd hok hm
  have hval := Lib.hid (shl_val (baseE e m) (timesN t) (by omega) z1 (timesN_le t))
  have hb : Hid (baseE e m = mn e.sm 1099511627776 + mx (4 * mn e.va 1099511627776) 1 + mn m 1099511627776) := rfl
  have hM : Hid (∀ x y, mn x y = if y < x then y else x) := fun _ _ => rfl
  have hX : Hid (∀ x y, mx x y = if x < y then y else x) := fun _ _ => rfl
  have hp : Hid (probeE e m (timesN t) = baseE e m * two (timesN t)) := rfl
  have hT : Hid (timesN t = if t < 0 then 0 else if 10 < t then 10 else t.toNat) := rfl
  obtain ⟨⟨a0, a1⟩, ⟨b0, b1⟩, ⟨c0, c1⟩, v0, v1⟩ := hok
  obtain ⟨m0, m1⟩ := hm
  obtain ⟨x0, x1⟩ := mn_bd e.sm c0
  obtain ⟨y0, y1⟩ := mn_bd e.va v0
  have hc : Hid ((capE e).sm = mn e.sm 1099511627776 ∧ (capE e).va = mn e.va 1099511627776) := ⟨rfl, rfl⟩
  clear z0 z1
  rcases (show t < 0 ∨ (0 ≤ t ∧ t ≤ 10) ∨ 10 < t from by omega) with g | ⟨g, g2⟩ | g
  all_goals
    go_enter Try.func13, Try.ntmps13
    go_wp2_with (first | (go_at_call 19; refine (capped_any e _).mono ?_; rintro r w' ⟨rfl, o1, o2, rfl⟩; rw [hc.out.1, hc.out.2]))
  all_goals (try go_returns)
  all_goals refine ⟨?_, by go_grown⟩
  iterate 4 (rotate_left 0; · exact ret_u64 (by rw [hp.out, hT.out, if_pos g, two, Int.mul_one, hb.out, hM.out m, hX.out]; repeat' split; all_goals omega))
  iterate 4 (rotate_left 0; · exact ret_u64 (by rw [hp.out, ← hval.out, hT.out, if_neg (by omega), if_neg (by omega)]; refine congrArg (fun z => IntKind.u64.wrap (z * 2 ^ t.toNat)) ?_; rw [hb.out, hM.out m, hX.out]; repeat' split; all_goals omega))
  iterate 4 (rotate_left 0; · exact ret_u64 (by rw [hp.out, hT.out, if_neg (by omega), if_pos g, show two 10 = 1024 from by decide, hb.out, hM.out m, hX.out]; repeat' split; all_goals omega))

set_option maxRecDepth 100000 in
set_option maxHeartbeats 4000000 in
theorem rprobe_any (e : Est) (hok : e.Ok) (m t : Int) (hm : Word m) (ht : t ≤ 9223372036854775807) (w : World) :
    Calls Try.prog 14 #[.agg #[.int .u64 e.la, .int .u64 e.le, .int .u64 e.sm, .int .u64 e.va, .bool e.kn], .int .u64 m, .int .i64 t] w fun r w' => r = .returned (.int .u64 (probeE e m (timesN t))) ∧ Below w.heap.size w w' := by
  obtain ⟨z0, z1⟩ := baseE_bd hok hm
  have hb : Hid (baseE e m = mn e.sm 1099511627776 + mx (4 * mn e.va 1099511627776) 1 + mn m 1099511627776) := rfl
  have hX : Hid (∀ x y, mx x y = if x < y then y else x) := fun _ _ => rfl
  have hT : Hid (timesN t = if t < 0 then 0 else if 10 < t then 10 else t.toNat) := rfl
  obtain ⟨⟨a0, a1⟩, ⟨b0, b1⟩, ⟨c0, c1⟩, v0, v1⟩ := hok
  obtain ⟨m0, m1⟩ := hm
  have hF : ∀ x, 0 ≤ x → mn 1099511627776 x = mn x 1099511627776 := fun x _ => by unfold mn; repeat' split; all_goals omega
  have e1 := Lib.hid (hF e.va v0)
  have e2 := Lib.hid (hF e.sm c0)
  have e3 := Lib.hid (hF m m0)
  obtain ⟨x0, x1⟩ := mn_bd e.sm c0
  obtain ⟨y0, y1⟩ := mn_bd e.va v0
  obtain ⟨u0, u1⟩ := mn_bd m m0
  clear hF
  rcases (show 4 * mn e.va 1099511627776 < 1 ∨ 1 ≤ 4 * mn e.va 1099511627776 from by omega) with g | g
  · go_enter Try.func14, Try.ntmps14
    go_wp2_with (first | (go_at_call 20; refine (less_any _ _ _).mono ?_; rintro r w' ⟨rfl, rfl⟩; (first | rw [e1.out] | rw [e2.out] | rw [e3.out])))
    have hbase : Hid (mn e.sm 1099511627776 + 1 + mn m 1099511627776 = baseE e m) := by show _ = _; rw [hb.out, hX.out]; split <;> omega
    rw [hbase.out]
    clear hbase
    go_loop [9, 10] (fun n v => ∃ k : Nat, k ≤ timesN t ∧ v = .int .i64 k ∧ n = .int .u64 (baseE e m * two k)) (fun _ v => 10 - (intOf v).toNat)
    case atStart => exact ⟨0, Nat.zero_le _, by simp, by simp [two]⟩
    case round =>
      obtain ⟨k, hk, rfl, rfl⟩ := hrel
      have hk10 : k ≤ 10 := Nat.le_trans hk (timesN_le t)
      obtain ⟨t0, t1⟩ := two_bd k hk10
      have p0 : 0 ≤ baseE e m * two k := Int.mul_nonneg (by omega) (by omega)
      have p1 : baseE e m * two k ≤ baseE e m * 1024 := Int.mul_le_mul_of_nonneg_left t1 (by omega)
      have p2 : baseE e m * two k ≤ 9216000000000000 := by omega
      have hk' : (k : Int) ≤ 10 := by omega
      have htw : Hid (baseE e m * two (k + 1) = baseE e m * two k * 2) := by show _ = _; rw [two, Int.mul_assoc]
      clear p1
      by_cases hlt : k < timesN t
      · have g1 : (k : Int) < t ∧ (k : Int) < 10 := by
          rw [hT.out] at hlt
          split at hlt
          · omega
          · split at hlt <;> omega
        obtain ⟨g1, g2⟩ := g1
        go_wp2_with fail
        go_round
        case rel => exact ⟨k + 1, hlt, by go_num, by rw [htw.out]⟩
        case measure => simp [intOf]; omega
      · have hkt : Hid (timesN t = k) := by show _ = _; omega
        have g1 : t ≤ (k : Int) ∨ ((k : Int) < t ∧ (10 : Int) ≤ (k : Int)) := by
          have := hkt.out
          rw [hT.out] at this
          split at this
          · omega
          · split at this <;> omega
        clear hlt
        rcases g1 with g1 | ⟨g1, g2⟩
        all_goals
          go_wp2_with fail
          go_ret
          exact ⟨ret_u64 (show baseE e m * two k = probeE e m (timesN t) by rw [hkt.out]; rfl), by go_grown⟩
  · go_enter Try.func14, Try.ntmps14
    go_wp2_with (first | (go_at_call 20; refine (less_any _ _ _).mono ?_; rintro r w' ⟨rfl, rfl⟩; (first | rw [e1.out] | rw [e2.out] | rw [e3.out])))
    have hbase : Hid (mn e.sm 1099511627776 + 4 * mn e.va 1099511627776 + mn m 1099511627776 = baseE e m) := by show _ = _; rw [hb.out, hX.out]; split <;> omega
    rw [hbase.out]
    clear hbase
    go_loop [9, 10] (fun n v => ∃ k : Nat, k ≤ timesN t ∧ v = .int .i64 k ∧ n = .int .u64 (baseE e m * two k)) (fun _ v => 10 - (intOf v).toNat)
    case atStart => exact ⟨0, Nat.zero_le _, by simp, by simp [two]⟩
    case round =>
      obtain ⟨k, hk, rfl, rfl⟩ := hrel
      have hk10 : k ≤ 10 := Nat.le_trans hk (timesN_le t)
      obtain ⟨t0, t1⟩ := two_bd k hk10
      have p0 : 0 ≤ baseE e m * two k := Int.mul_nonneg (by omega) (by omega)
      have p1 : baseE e m * two k ≤ baseE e m * 1024 := Int.mul_le_mul_of_nonneg_left t1 (by omega)
      have p2 : baseE e m * two k ≤ 9216000000000000 := by omega
      have hk' : (k : Int) ≤ 10 := by omega
      have htw : Hid (baseE e m * two (k + 1) = baseE e m * two k * 2) := by show _ = _; rw [two, Int.mul_assoc]
      clear p1
      by_cases hlt : k < timesN t
      · have g1 : (k : Int) < t ∧ (k : Int) < 10 := by
          rw [hT.out] at hlt
          split at hlt
          · omega
          · split at hlt <;> omega
        obtain ⟨g1, g2⟩ := g1
        go_wp2_with fail
        go_round
        case rel => exact ⟨k + 1, hlt, by go_num, by rw [htw.out]⟩
        case measure => simp [intOf]; omega
      · have hkt : Hid (timesN t = k) := by show _ = _; omega
        have g1 : t ≤ (k : Int) ∨ ((k : Int) < t ∧ (10 : Int) ≤ (k : Int)) := by
          have := hkt.out
          rw [hT.out] at this
          split at this
          · omega
          · split at this <;> omega
        clear hlt
        rcases g1 with g1 | ⟨g1, g2⟩
        all_goals
          go_wp2_with fail
          go_ret
          exact ⟨ret_u64 (show baseE e m * two k = probeE e m (timesN t) by rw [hkt.out]; rfl), by go_grown⟩
end Go.Proofs.Ytipcfpepdmphcaa

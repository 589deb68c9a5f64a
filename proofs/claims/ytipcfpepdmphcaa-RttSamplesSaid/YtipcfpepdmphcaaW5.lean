/-
  One sample more, in the reference: the walk.
-/
import Derived.Test.YtipcfpepdmphcaaW2
namespace Go.Proofs.Ytipcfpepdmphcaa
open Go.RowKit

set_option maxRecDepth 100000 in
set_option maxHeartbeats 4000000 in
theorem rsample_same (e : Est) (t d : Int) (h : 1099511627776 < t ∨ ¬ e.Low) (w : World) :
    Calls Try.prog 12 #[.agg #[.int .u64 e.la, .int .u64 e.le, .int .u64 e.sm, .int .u64 e.va, .bool e.kn], .int .u64 t, .int .u64 d] w (EstPost (sampleE e t d) w) := by
  have e0 : Hid (sampleE e t d = e) := if_pos h
  rw [e0.out]
  obtain ⟨a, b, c, v, f⟩ := e
  simp only [Est.Low] at *
  have hc : 1099511627776 < t ∨ (t ≤ 1099511627776 ∧ 1099511627776 < a) ∨ (t ≤ 1099511627776 ∧ a ≤ 1099511627776 ∧ 1099511627776 < b) ∨ (t ≤ 1099511627776 ∧ a ≤ 1099511627776 ∧ b ≤ 1099511627776 ∧ 1099511627776 < c) ∨ (t ≤ 1099511627776 ∧ a ≤ 1099511627776 ∧ b ≤ 1099511627776 ∧ c ≤ 1099511627776 ∧ 1099511627776 < v) := by omega
  clear h e0
  rcases hc with h1 | ⟨h1, h2⟩ | ⟨h1, h2, h3⟩ | ⟨h1, h2, h3, h4⟩ | ⟨h1, h2, h3, h4, h5⟩
  all_goals
    go_enter Try.func12, Try.ntmps12
    go_wp2_with fail
    go_returns
    exact ⟨rfl, by go_grown⟩

set_option maxRecDepth 100000 in
set_option maxHeartbeats 1000000 in
theorem rsample_new (e : Est) (t d : Int) (ht0 : 0 ≤ t) (h : t ≤ 1099511627776) (hl : e.Low) (hk : e.kn = false) (w : World) :
    Calls Try.prog 12 #[.agg #[.int .u64 e.la, .int .u64 e.le, .int .u64 e.sm, .int .u64 e.va, .bool e.kn], .int .u64 t, .int .u64 d] w (EstPost (sampleE e t d) w) := by
  have e0 : Hid (sampleE e t d = ⟨t, t, t, t / 2, true⟩) := by
    show _ = _
    unfold sampleE
    rw [if_neg (by intro hh; rcases hh with hh | hh; omega; exact hh hl), if_pos hk]
  rw [e0.out]
  obtain ⟨l0, l1, l2, l3⟩ := hl
  clear e0
  obtain ⟨a, b, c, v, f⟩ := e
  simp only at *
  subst hk
  go_enter Try.func12, Try.ntmps12
  go_wp2_with fail
  go_returns
  exact ⟨rfl, by go_grown⟩

set_option maxRecDepth 100000 in
set_option maxHeartbeats 16000000 in
theorem rsample_known (e : Est) (t d : Int) (hok : e.Ok) (ht0 : 0 ≤ t) (h : t ≤ 1099511627776) (hd0 : Word d) (hl : e.Low) (hk : e.kn = true) (w : World) :
    Calls Try.prog 12 #[.agg #[.int .u64 e.la, .int .u64 e.le, .int .u64 e.sm, .int .u64 e.va, .bool e.kn], .int .u64 t, .int .u64 d] w (EstPost (sampleE e t d) w) := by
  have e0 : Hid (sampleE e t d = ⟨t, mn e.le t, (7 * e.sm + ownT (mn e.le t) t d) / 8, (3 * e.va + (mx e.sm (ownT (mn e.le t) t d) - mn e.sm (ownT (mn e.le t) t d))) / 4, true⟩) := by
    show _ = _
    unfold sampleE
    rw [if_neg (by intro hh; rcases hh with hh | hh; omega; exact hh hl), if_neg (by rw [hk]; simp)]
  rw [e0.out]
  obtain ⟨l0, l1, l2, l3⟩ := hl
  obtain ⟨⟨a0, a1⟩, ⟨b0, b1⟩, ⟨c0, c1⟩, v0, v1⟩ := hok
  obtain ⟨d0, d1⟩ := hd0
  have hM : Hid (∀ x y, mn x y = if y < x then y else x) := fun _ _ => rfl
  have hX : Hid (∀ x y, mx x y = if x < y then y else x) := fun _ _ => rfl
  have hO : Hid (∀ x y z, ownT x y z = if z ≤ y ∧ x ≤ y - z then y - z else y) := fun _ _ _ => rfl
  clear e0
  obtain ⟨a, b, c, v, f⟩ := e
  simp only at *
  subst hk
  have m0 : 0 ≤ mn b t ∧ mn b t ≤ t := by rw [hM.out]; split <;> omega
  obtain ⟨m0, m1⟩ := m0
  rcases (show d ≤ t - mn b t ∨ t - mn b t < d from by omega) with g | g
  · have hown : Hid (ownT (mn b t) t d = t - d) := by
      show _ = _
      rw [hO.out, if_pos (by omega)]
    rw [hown.out]
    have k0 : 0 ≤ mn c (t - d) ∧ mn c (t - d) ≤ t - d ∧ mn c (t - d) ≤ c := by rw [hM.out]; split <;> omega
    obtain ⟨k0, k1, k2⟩ := k0
    have u1 : IntKind.u64.wrap (t - d - mn c (t - d)) = t - d - mn c (t - d) := IntWalk.u64_in _ ⟨by omega, by omega⟩
    have u2 : IntKind.u64.wrap (t - d - mn c (t - d) + c) = t - d - mn c (t - d) + c := IntWalk.u64_in _ ⟨by omega, by omega⟩
    have u3 : IntKind.u64.wrap (t - d - mn c (t - d) + c - mn c (t - d)) = t - d - mn c (t - d) + c - mn c (t - d) := IntWalk.u64_in _ ⟨by omega, by omega⟩
    have U := Lib.hid (And.intro u1 (And.intro u2 u3))
    have hfar : Hid (t - d - mn c (t - d) + c - mn c (t - d) = mx c (t - d) - mn c (t - d)) := by
      show _ = _
      rw [hM.out, hX.out]; repeat' split
      all_goals omega
    clear u1 u2 u3
    go_enter Try.func12, Try.ntmps12
    go_wp2_with (first | (go_at_call 20; refine (less_any _ _ _).mono ?_; rintro r w' ⟨rfl, rfl⟩; rw [show mn t b = mn b t from by unfold mn; repeat' split; all_goals omega]) | (go_at_call 20; refine (less_any _ _ _).mono ?_; rintro r w' ⟨rfl, rfl⟩))
    obtain ⟨u1, u2, u3⟩ := U.out
    go_region_held3 (fun w' => w'.cell? ⟨w.heap.size, 2, none⟩ = some (.int .u64 c)) (simp [go_sem, World.cell?_alloc_past])
      (first | (go_at_call 20; refine (less_any _ _ _).mono ?_; rintro r w' ⟨rfl, rfl⟩))
    clear u1 u2 u3
    rw [hfar.out]
    have k3 : 0 ≤ mx c (t - d) - mn c (t - d) ∧ mx c (t - d) - mn c (t - d) ≤ 1099511627776 := by
      rw [hM.out, hX.out]; repeat' split
      all_goals omega
    obtain ⟨k3, k4⟩ := k3
    go_wp2_with fail
    go_returns
    exact ⟨ret_est rfl rfl (by simp only []; omega) (by simp only []; omega) rfl, by go_grown⟩
  · have hown : Hid (ownT (mn b t) t d = t) := by
      show _ = _
      rw [hO.out, if_neg (by omega)]
    rw [hown.out]
    have k0 : 0 ≤ mn c (t) ∧ mn c (t) ≤ t ∧ mn c (t) ≤ c := by rw [hM.out]; split <;> omega
    obtain ⟨k0, k1, k2⟩ := k0
    have u1 : IntKind.u64.wrap (t - mn c (t)) = t - mn c (t) := IntWalk.u64_in _ ⟨by omega, by omega⟩
    have u2 : IntKind.u64.wrap (t - mn c (t) + c) = t - mn c (t) + c := IntWalk.u64_in _ ⟨by omega, by omega⟩
    have u3 : IntKind.u64.wrap (t - mn c (t) + c - mn c (t)) = t - mn c (t) + c - mn c (t) := IntWalk.u64_in _ ⟨by omega, by omega⟩
    have U := Lib.hid (And.intro u1 (And.intro u2 u3))
    have hfar : Hid (t - mn c (t) + c - mn c (t) = mx c (t) - mn c (t)) := by
      show _ = _
      rw [hM.out, hX.out]; repeat' split
      all_goals omega
    clear u1 u2 u3
    go_enter Try.func12, Try.ntmps12
    go_wp2_with (first | (go_at_call 20; refine (less_any _ _ _).mono ?_; rintro r w' ⟨rfl, rfl⟩; rw [show mn t b = mn b t from by unfold mn; repeat' split; all_goals omega]) | (go_at_call 20; refine (less_any _ _ _).mono ?_; rintro r w' ⟨rfl, rfl⟩))
    obtain ⟨u1, u2, u3⟩ := U.out
    go_region_held3 (fun w' => w'.cell? ⟨w.heap.size, 2, none⟩ = some (.int .u64 c)) (simp [go_sem, World.cell?_alloc_past])
      (first | (go_at_call 20; refine (less_any _ _ _).mono ?_; rintro r w' ⟨rfl, rfl⟩))
    clear u1 u2 u3
    rw [hfar.out]
    have k3 : 0 ≤ mx c (t) - mn c (t) ∧ mx c (t) - mn c (t) ≤ 1099511627776 := by
      rw [hM.out, hX.out]; repeat' split
      all_goals omega
    obtain ⟨k3, k4⟩ := k3
    go_wp2_with fail
    go_returns
    exact ⟨ret_est rfl rfl (by simp only []; omega) (by simp only []; omega) rfl, by go_grown⟩

theorem rsample_any (e : Est) (t d : Int) (hok : e.Ok) (ht : Word t) (hd : Word d) (w : World) :
    Calls Try.prog 12 #[.agg #[.int .u64 e.la, .int .u64 e.le, .int .u64 e.sm, .int .u64 e.va, .bool e.kn], .int .u64 t, .int .u64 d] w (EstPost (sampleE e t d) w) := by
  by_cases h : 1099511627776 < t
  · exact rsample_same e t d (Or.inl h) w
  · by_cases hl : e.Low
    · cases hk : e.kn
      · have := rsample_new e t d ht.1 (by omega) hl hk w
        rwa [hk] at this
      · have := rsample_known e t d hok ht.1 (by omega) hd hl hk w
        rwa [hk] at this
    · exact rsample_same e t d (Or.inr hl) w
end Go.Proofs.Ytipcfpepdmphcaa

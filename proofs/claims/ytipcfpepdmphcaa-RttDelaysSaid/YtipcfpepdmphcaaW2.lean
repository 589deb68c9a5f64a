/-
  One sample more, in the program: the walk.
-/
import Derived.Test.YtipcfpepdmphcaaW1
namespace Go.Proofs.Ytipcfpepdmphcaa
open Go.RowKit

theorem below_drewN {B : Nat} {a w : World} (h : Below B a w) (n : Nat) : Below B a (w.drewN n) := ⟨h.os, h.tape, h.output, h.size, h.block⟩
/-- What a function gives back that makes an estimate. -/
def EstPost (e : Est) (w : World) (r : Ending) (w' : World) : Prop :=
  r = .returned (.agg #[.int .u64 e.la, .int .u64 e.le, .int .u64 e.sm, .int .u64 e.va, .bool e.kn]) ∧ Below w.heap.size w w'

set_option maxRecDepth 100000 in
set_option maxHeartbeats 1000000 in
theorem sample_late (e : Est) (t d : Int) (h : 1099511627776 < t) (w : World) :
    Calls Try.prog 11 #[.agg #[.int .u64 e.la, .int .u64 e.le, .int .u64 e.sm, .int .u64 e.va, .bool e.kn], .int .u64 t, .int .u64 d] w (EstPost (sampleE e t d) w) := by
  have e0 : Hid (sampleE e t d = e) := if_pos (Or.inl h)
  rw [e0.out]
  obtain ⟨a, b, c, v, f⟩ := e
  simp only
  have hd : decide (1099511627776 < t) = true := decide_eq_true h
  go_enter Try.func11, Try.ntmps11
  go_wp2_with fail
  go_quiet (fail)
  go_wp2_with fail
  go_returns
  exact ⟨rfl, by repeat (first | exact Below.refl _ _ | refine Below.setCell ?_ (by simp) _ | refine below_drewN ?_ _ | refine Below.alloc ?_ (by simp) _)⟩

set_option maxRecDepth 100000 in
set_option maxHeartbeats 1000000 in
theorem sample_high (e : Est) (t d : Int) (h : t ≤ 1099511627776) (hl : ¬ e.Low) (w : World) :
    Calls Try.prog 11 #[.agg #[.int .u64 e.la, .int .u64 e.le, .int .u64 e.sm, .int .u64 e.va, .bool e.kn], .int .u64 t, .int .u64 d] w (EstPost (sampleE e t d) w) := by
  have e0 : Hid (sampleE e t d = e) := if_pos (Or.inr hl)
  rw [e0.out]
  have hh := capE_high hl
  clear hl e0
  have hd : decide (1099511627776 < t) = false := decide_eq_false (by omega)
  have q24 := neq24
  go_enter Try.func11, Try.ntmps11
  go_wp2_with fail
  go_region_held3 (fun w' => w'.cell? ⟨w.heap.size, 0, none⟩ = some (.int .u64 e.la) ∧ w'.cell? ⟨w.heap.size, 1, none⟩ = some (.int .u64 e.le) ∧ w'.cell? ⟨w.heap.size, 2, none⟩ = some (.int .u64 e.sm) ∧ w'.cell? ⟨w.heap.size, 3, none⟩ = some (.int .u64 e.va) ∧ w'.cell? ⟨w.heap.size, 4, none⟩ = some (.bool e.kn))
    (simp [go_sem, World.cell?_alloc_past])
    (first | (go_at_call 19; refine (capped_any e _).mono ?_; rintro r w' ⟨rfl, c1, c2, rfl⟩))
  go_wp2_with fail
  go_returns
  exact ⟨rfl, by go_grown⟩

/-- The region at the function's head, where nothing is too great. -/
theorem eq_low {e : Est} (hl : e.Low) : eqE (capE e).la (capE e).le (capE e).sm (capE e).va (capE e).kn e.la e.le e.sm e.va e.kn = true := by
  rw [capE_low hl]; exact eqE_self _ _ _ _ _

set_option maxRecDepth 100000 in
set_option maxHeartbeats 1000000 in
theorem sample_new (e : Est) (t d : Int) (ht0 : 0 ≤ t) (h : t ≤ 1099511627776) (hl : e.Low) (hk : e.kn = false) (w : World) :
    Calls Try.prog 11 #[.agg #[.int .u64 e.la, .int .u64 e.le, .int .u64 e.sm, .int .u64 e.va, .bool e.kn], .int .u64 t, .int .u64 d] w (EstPost (sampleE e t d) w) := by
  have e0 : Hid (sampleE e t d = ⟨t, t, t, t / 2, true⟩) := by
    show _ = _
    unfold sampleE
    rw [if_neg (by intro hh; rcases hh with hh | hh; omega; exact hh hl), if_pos hk]
  rw [e0.out]
  have hh := eq_low hl
  clear hl e0
  have hd : decide (1099511627776 < t) = false := decide_eq_false (by omega)
  have q24 := neq24
  obtain ⟨a, b, c, v, f⟩ := e
  simp only at *
  subst hk
  go_enter Try.func11, Try.ntmps11
  go_wp2_with fail
  go_region_held3 (fun w' => w'.cell? ⟨w.heap.size, 0, none⟩ = some (.int .u64 a) ∧ w'.cell? ⟨w.heap.size, 1, none⟩ = some (.int .u64 b) ∧ w'.cell? ⟨w.heap.size, 2, none⟩ = some (.int .u64 c) ∧ w'.cell? ⟨w.heap.size, 3, none⟩ = some (.int .u64 v) ∧ w'.cell? ⟨w.heap.size, 4, none⟩ = some (.bool false))
    (simp [go_sem, World.cell?_alloc_past])
    (first | (go_at_call 19; refine (capped_any ⟨a, b, c, v, false⟩ _).mono ?_; rintro r w' ⟨rfl, c1, c2, rfl⟩))
  go_wp2_with fail
  go_returns
  exact ⟨rfl, by go_grown⟩

set_option maxRecDepth 100000 in
set_option maxHeartbeats 16000000 in
theorem sample_known (e : Est) (t d : Int) (hok : e.Ok) (ht0 : 0 ≤ t) (h : t ≤ 1099511627776) (hd0 : Word d) (hl : e.Low) (hk : e.kn = true) (w : World) :
    Calls Try.prog 11 #[.agg #[.int .u64 e.la, .int .u64 e.le, .int .u64 e.sm, .int .u64 e.va, .bool e.kn], .int .u64 t, .int .u64 d] w (EstPost (sampleE e t d) w) := by
  have e0 : Hid (sampleE e t d = ⟨t, mn e.le t, (7 * e.sm + ownT (mn e.le t) t d) / 8, (3 * e.va + (mx e.sm (ownT (mn e.le t) t d) - mn e.sm (ownT (mn e.le t) t d))) / 4, true⟩) := by
    show _ = _
    unfold sampleE
    rw [if_neg (by intro hh; rcases hh with hh | hh; omega; exact hh hl), if_neg (by rw [hk]; simp)]
  rw [e0.out]
  have hh := eq_low hl
  obtain ⟨l0, l1, l2, l3⟩ := hl
  obtain ⟨⟨a0, a1⟩, ⟨b0, b1⟩, ⟨c0, c1⟩, v0, v1⟩ := hok
  obtain ⟨d0, d1⟩ := hd0
  have hM : Hid (∀ x y, mn x y = if y < x then y else x) := fun _ _ => rfl
  have hX : Hid (∀ x y, mx x y = if x < y then y else x) := fun _ _ => rfl
  have hO : Hid (∀ x y z, ownT x y z = if z ≤ y ∧ x ≤ y - z then y - z else y) := fun _ _ _ => rfl
  clear e0
  have hd : decide (1099511627776 < t) = false := decide_eq_false (by omega)
  have q24 := neq24
  obtain ⟨a, b, c, v, f⟩ := e
  simp only at *
  subst hk
  go_enter Try.func11, Try.ntmps11
  go_wp2_with fail
  go_region_held3 (fun w' => w'.cell? ⟨w.heap.size, 0, none⟩ = some (.int .u64 a) ∧ w'.cell? ⟨w.heap.size, 1, none⟩ = some (.int .u64 b) ∧ w'.cell? ⟨w.heap.size, 2, none⟩ = some (.int .u64 c) ∧ w'.cell? ⟨w.heap.size, 3, none⟩ = some (.int .u64 v) ∧ w'.cell? ⟨w.heap.size, 4, none⟩ = some (.bool true))
    (simp [go_sem, World.cell?_alloc_past])
    (first | (go_at_call 19; refine (capped_any ⟨a, b, c, v, true⟩ _).mono ?_; rintro r w' ⟨rfl, o1, o2, rfl⟩))
  rcases (show (b ≤ t ∧ (d ≤ t ∧ b ≤ t - d)) ∨ (b ≤ t ∧ (d ≤ t ∧ t - d < b)) ∨ (b ≤ t ∧ t < d) ∨ (t < b ∧ (d ≤ t ∧ t ≤ t - d)) ∨ (t < b ∧ (d ≤ t ∧ t - d < t)) ∨ (t < b ∧ t < d) from by omega) with ⟨g1, g2, g3⟩ | ⟨g1, g2, g3⟩ | ⟨g1, g2⟩ | ⟨g1, g2, g3⟩ | ⟨g1, g2, g3⟩ | ⟨g1, g2⟩
  all_goals (go_wp2_with fail)
  all_goals (try go_returns)
  all_goals exact ⟨ret_est rfl (by simp only [hM.out]; repeat' split; all_goals omega) (by simp only [hM.out, hO.out]; repeat' split; all_goals omega) (by simp only [hM.out, hX.out, hO.out]; repeat' split; all_goals omega) rfl, by go_grown⟩

theorem sample_any (e : Est) (t d : Int) (hok : e.Ok) (ht : Word t) (hd : Word d) (w : World) :
    Calls Try.prog 11 #[.agg #[.int .u64 e.la, .int .u64 e.le, .int .u64 e.sm, .int .u64 e.va, .bool e.kn], .int .u64 t, .int .u64 d] w (EstPost (sampleE e t d) w) := by
  by_cases h : 1099511627776 < t
  · exact sample_late e t d h w
  · by_cases hl : e.Low
    · cases hk : e.kn
      · have := sample_new e t d ht.1 (by omega) hl hk w
        rwa [hk] at this
      · have := sample_known e t d hok ht.1 (by omega) hd hl hk w
        rwa [hk] at this
    · exact sample_high e t d (by omega) hl w
end Go.Proofs.Ytipcfpepdmphcaa

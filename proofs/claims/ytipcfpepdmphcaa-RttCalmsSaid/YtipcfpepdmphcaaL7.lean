/-
  The law RttCalms: the walk.
-/
import Derived.Test.YtipcfpepdmphcaaW6
import Derived.Test.YtipcfpepdmphcaaPure
import Derived.Test.YtipcfpepdmphcaaL4
import Derived.BigRegion
import Derived.Deep.RegionWith
import Derived.Deep.DeepCutAuto
namespace Go.Proofs.Ytipcfpepdmphcaa
open Go.RowKit

theorem far_quiet (a b : Int) (ha : Word a) (hb : Word b) (w : World) :
    Calls Try.prog 18 #[.int .u64 a, .int .u64 b] w fun r w' => r = .returned (.int .u64 (far a b)) ∧ w' = w := by
  obtain ⟨a0, a1⟩ := ha
  obtain ⟨b0, b1⟩ := hb
  go_enter Try.func18, Try.ntmps18
  rcases Int.lt_trichotomy a b with h | h | h
  · go_wp2_with fail
    go_ret
    refine ⟨?_, rfl⟩
    unfold far mx mn
    rw [if_pos h, if_neg (by omega)]; rfl
  · subst h
    go_wp2_with fail
    go_ret
    refine ⟨?_, rfl⟩
    rw [far, mx_self, mn_self, Int.sub_self]; rfl
  · go_wp2_with fail
    go_ret
    refine ⟨?_, rfl⟩
    unfold far mx mn
    rw [if_neg (by omega), if_pos h]; rfl

set_option maxRecDepth 100000 in
set_option maxHeartbeats 8000000 in
theorem calms_any (e : Est) (t : Int) (hok : e.Ok) (ht : Word t) (w : World) :
    Calls Try.prog 9 #[.agg #[.int .u64 e.la, .int .u64 e.le, .int .u64 e.sm, .int .u64 e.va, .bool e.kn], .int .u64 t] w fun r w' => r = .returned (.bool true) ∧ Below w.heap.size w w' := by
  obtain ⟨⟨a0, a1⟩, ⟨b0, b1⟩, ⟨c0, c1⟩, v0, v1⟩ := hok
  obtain ⟨t0, t1⟩ := ht
  go_enter Try.func9, Try.ntmps9
  go_wp2_with fail
  refine (awake_any _).mono ?_
  rintro r w1 ⟨rfl, hb⟩
  have hA := Lib.hid ((EB.newAt (w := w) rfl e 24).below hb)
  have hB : Below w.heap.size w w1 := next ((Below.refl _ w).alloc (Nat.le_refl _) _) hb (by simp)
  have z1 := hB.size
  clear hb
  have hA0 := hA.out
  obtain ⟨-, ⟨k0, k1, k2, k3, k4⟩, f0, f1, f2, f3, f4⟩ := hA0
  go_wp2_with fail
  go_cut [] (fun wx => EB wx w.heap.size ⟨e.la % 1099511627777, e.le % 1099511627777, e.sm % 1099511627777, e.va % 1099511627777, true⟩ ∧ Below w.heap.size w wx)
  case first =>
    go_region
    all_goals
      (try go_wp2_with fail)
      go_meet
      exact ⟨EB.drew (EB.store (d := ⟨e.la % 1099511627777, e.le % 1099511627777, e.sm % 1099511627777, e.va % 1099511627777, true⟩) hA.out), (below_set5 hB (by omega) _ _ _ _ _).drew⟩
  case rest =>
    obtain ⟨hd, hB2⟩ := hcut
    have hd0 := Lib.hid hd
    have z2 := hB2.size
    clear k0 k1 k2 k3 k4 f0 f1 f2 f3 f4 hA
    obtain ⟨-, ⟨k0, k1, k2, k3, k4⟩, -⟩ := hd
    have hok : Est.Ok ⟨e.la % 1099511627777, e.le % 1099511627777, e.sm % 1099511627777, e.va % 1099511627777, true⟩ := by
      refine ⟨⟨?_, ?_⟩, ⟨?_, ?_⟩, ⟨?_, ?_⟩, ?_, ?_⟩ <;> simp only <;> omega
    have hlow : Est.Low ⟨e.la % 1099511627777, e.le % 1099511627777, e.sm % 1099511627777, e.va % 1099511627777, true⟩ := by
      refine ⟨?_, ?_, ?_, ?_⟩ <;> simp only <;> omega
    have T0 : 0 ≤ t % 1099511627777 := by omega
    have T1 : t % 1099511627777 ≤ 1099511627776 := by omega
    have hT : Word (t % 1099511627777) := ⟨T0, by omega⟩
    have hsok := sample_ok hok (t := t % 1099511627777) (d := 0) T0 (by omega)
    have hC := Lib.hid (calms hok hlow rfl T0 T1)
    have hSm : Word (e.sm % 1099511627777) := hok.2.2.1
    have Hsok := Lib.hid hsok
    go_wp2_with fail
    refine (sample_any ⟨e.la % 1099511627777, e.le % 1099511627777, e.sm % 1099511627777, e.va % 1099511627777, true⟩ (t % 1099511627777) 0 hok hT ⟨by omega, by omega⟩ _).mono ?_
    rintro r w3 ⟨rfl, hp⟩
    have hS := Lib.hid (hd0.out.below hp)
    have hB3 := next hB2 hp z2
    have z3 := hB3.size
    generalize sampleE ⟨e.la % 1099511627777, e.le % 1099511627777, e.sm % 1099511627777, e.va % 1099511627777, true⟩ (t % 1099511627777) 0 = E at *
    clear k0 k1 k2 k3 k4 hp hok hlow hd0
    go_wp2_with fail
    have hE4 := EB.newAt (w := w3) rfl E 24
    have hS4 := hS.out.alloc (.cells #[.int .u64 E.la, .int .u64 E.le, .int .u64 E.sm, .int .u64 E.va, .bool E.kn] 24)
    have hB4 : Below w.heap.size w (w3.alloc (.cells #[.int .u64 E.la, .int .u64 E.le, .int .u64 E.sm, .int .u64 E.va, .bool E.kn] 24)) := hB3.alloc z3 _
    generalize w3.alloc (.cells #[.int .u64 E.la, .int .u64 E.le, .int .u64 E.sm, .int .u64 E.va, .bool E.kn] 24) = w4 at *
    obtain ⟨-, ⟨-, -, k2, k3, -⟩, -⟩ := hS4
    obtain ⟨-, ⟨-, -, b2, b3, b4⟩, -⟩ := hE4
    simp only at k2 k3
    obtain ⟨g1, g2, g3⟩ := hC.out
    rw [g3] at b4
    have hEs : Word E.sm := Hsok.out.2.2.1
    clear hC
    have u2 := decide_eq_true g2
    unfold mx at g1
    have u3 := decide_eq_true g1
    have hcase : (e.va % 1099511627777 < far (e.sm % 1099511627777) (t % 1099511627777) ∧ E.va ≤ far (e.sm % 1099511627777) (t % 1099511627777)) ∨ (¬ (e.va % 1099511627777 < far (e.sm % 1099511627777) (t % 1099511627777)) ∧ E.va ≤ e.va % 1099511627777) := by
      split at g1
      · exact Or.inl ⟨by assumption, g1⟩
      · exact Or.inr ⟨by assumption, g1⟩
    clear g1 g2
    rcases hcase with ⟨hl, g1⟩ | ⟨hl, g1⟩
    all_goals
      have u1 := decide_eq_true g1
      go_region_held3 (fun w' => w'.cell? ⟨w.heap.size, 2, none⟩ = some (.int .u64 (e.sm % 1099511627777)) ∧ w'.cell? ⟨w.heap.size, 3, none⟩ = some (.int .u64 (e.va % 1099511627777)) ∧ w'.cell? ⟨w3.heap.size, 2, none⟩ = some (.int .u64 E.sm) ∧ w'.cell? ⟨w3.heap.size, 3, none⟩ = some (.int .u64 E.va) ∧ w'.cell? ⟨w3.heap.size, 4, none⟩ = some (.bool true))
        (exact ⟨k2, k3, b2, b3, b4⟩)
        (first
          | (go_at_call 18; (with_reducible refine (far_quiet _ _ hSm hT _).mono ?_); rintro r x1 ⟨rfl, rfl⟩)
          | (go_at_call 18; (with_reducible refine (far_quiet _ _ hEs hT _).mono ?_); rintro r x1 ⟨rfl, rfl⟩))
      go_wp2_with fail
      go_ret
      exact ⟨rfl, hB4.drew⟩
end Go.Proofs.Ytipcfpepdmphcaa

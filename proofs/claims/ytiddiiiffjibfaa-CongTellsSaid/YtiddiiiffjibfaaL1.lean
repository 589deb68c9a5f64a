/-
  The law CongTells: the walk.
-/
import Derived.Test.YtiddiiiffjibfaaW4
import Derived.Test.YtiddiiiffjibfaaW5
namespace Go.Proofs.Ytiddiiiffjibfaa
open Go.RowKit

/-- What a function that leaves the old cells alone leaves of a control's block. -/
theorem keep4 {W w1 : World} (hb : Below W.heap.size W w1) {b : Nat} {v0 v1 v2 v3 : Value} (hlt : b < W.heap.size)
    (h0 : W.cell? ⟨b, 0, none⟩ = some v0) (h1 : W.cell? ⟨b, 1, none⟩ = some v1) (h2 : W.cell? ⟨b, 2, none⟩ = some v2) (h3 : W.cell? ⟨b, 3, none⟩ = some v3) :
    b < w1.heap.size ∧ w1.cell? ⟨b, 0, none⟩ = some v0 ∧ w1.cell? ⟨b, 1, none⟩ = some v1 ∧ w1.cell? ⟨b, 2, none⟩ = some v2 ∧ w1.cell? ⟨b, 3, none⟩ = some v3 :=
  ⟨Nat.lt_of_lt_of_le hlt hb.size, (hb.cell hlt).trans h0, (hb.cell hlt).trans h1, (hb.cell hlt).trans h2, (hb.cell hlt).trans h3⟩

set_option maxHeartbeats 4000000 in
theorem tells_any (c : Ctl) (n t now : Int) (hc : c.Ok) (hn : Word n) (_ht : Word t) (_hw : Word now) (w : World) :
    Calls Try.prog 3 #[.agg #[.int .u64 c.w, .int .u64 c.l, .int .u64 c.s, .bool c.f], .int .u64 n, .int .u64 t, .int .u64 now] w fun e w' => e = .returned (.bool true) ∧ Below w.heap.size w w' := by
  have q26 := eql26
  have q24 := eql24
  have es := ceq_self
  go_enter Try.func3, Try.ntmps3
  go_wp2_with (first | (go_at_call 10; refine (awake_any _).mono ?_; rintro e w1 ⟨rfl, hb⟩; obtain ⟨hz, k0, k1, k2, k3⟩ := keep4 hb (b := w.heap.size) (by simp) (v0 := .int .u64 c.w) (v1 := .int .u64 c.l) (v2 := .int .u64 c.s) (v3 := .bool c.f) (by go_simp) (by go_simp) (by go_simp) (by go_simp)) | (go_at_call 11; refine (stuck_any _ _ _ _ _).mono ?_; rintro e w' ⟨rfl, c1, c2, c3, rfl⟩))
  go_region_held3 (fun w' => w'.cell? ⟨w.heap.size, 0, none⟩ = some (.int .u64 c.w) ∧ w'.cell? ⟨w.heap.size, 1, none⟩ = some (.int .u64 c.l) ∧ w'.cell? ⟨w.heap.size, 2, none⟩ = some (.int .u64 c.s) ∧ w'.cell? ⟨w.heap.size, 3, none⟩ = some (.bool c.f) ∧ w'.cell? ⟨w1.heap.size, 0, none⟩ = some (.int .u64 c.w) ∧ w'.cell? ⟨w1.heap.size, 1, none⟩ = some (.int .u64 c.l) ∧ w'.cell? ⟨w1.heap.size, 2, none⟩ = some (.int .u64 c.s) ∧ w'.cell? ⟨w1.heap.size, 3, none⟩ = some (.bool c.f) ∧ w'.cell? ⟨w1.heap.size + 1 + 1 + 1 + 1, 0, none⟩ = some (.int .u64 2400) ∧ w'.cell? ⟨w1.heap.size + 1 + 1 + 1 + 1, 1, none⟩ = some (.int .u64 c.l) ∧ w'.cell? ⟨w1.heap.size + 1 + 1 + 1 + 1, 2, none⟩ = some (.int .u64 0) ∧ w'.cell? ⟨w1.heap.size + 1 + 1 + 1 + 1, 3, none⟩ = some (.bool false)) (refine ⟨cell_later ?_ k0, cell_later ?_ k1, cell_later ?_ k2, cell_later ?_ k3, ?_, ?_, ?_, ?_, ?_, ?_, ?_, ?_⟩ <;> first | (go_grown; done) | (simp [go_sem, World.cell?_alloc_past]; done))
    (first
      | (go_at_call 12; refine (acked_any c _ _ hc.1 hn _).mono ?_; rintro e w' ⟨rfl, c4, c5, c6, rfl⟩)
      | (go_at_call 13; refine (racked_any c _ _ hc.1 hn _).mono ?_; rintro e w' ⟨rfl, c7, c8, rfl⟩)
      | (go_at_call 14; refine (lost_any c _ _ hc.1 _).mono ?_; rintro e w' ⟨rfl, c9, c10, c11, rfl⟩)
      | (go_at_call 15; refine (rlost_any c _ _ hc.1 _).mono ?_; rintro e w' ⟨rfl, c12, c13, rfl⟩)
      | (go_at_call 16; refine (room_any c _ hc.1 hn _).mono ?_; rintro e w' ⟨rfl, c14, rfl⟩)
      | (go_at_call 17; refine (rroom_any c _ hc.1 hn _).mono ?_; rintro e w' ⟨rfl, c15, rfl⟩))
  have hB : Below w.heap.size w w1 := ((Below.refl _ w).alloc (Nat.le_refl _) _).trans (hb.mono (by simp))
  go_wp2
  go_ret
  exact ⟨rfl, by go_grown⟩
end Go.Proofs.Ytiddiiiffjibfaa

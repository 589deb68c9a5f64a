/-
  An estimate in a block of its own; the calls whose answers are fixed: the walk.
-/
import Derived.Test.YtipcfpepdmphcaaW2
import Derived.Test.YtipcfpepdmphcaaW4
namespace Go.Proofs.Ytipcfpepdmphcaa
open Go.RowKit

/-- Block b is an estimate, and may be written. -/
def EB (w : World) (b : Nat) (e : Est) : Prop :=
  b < w.heap.size ∧ (w.cell? ⟨b, 0, none⟩ = some (.int .u64 e.la) ∧ w.cell? ⟨b, 1, none⟩ = some (.int .u64 e.le) ∧ w.cell? ⟨b, 2, none⟩ = some (.int .u64 e.sm) ∧ w.cell? ⟨b, 3, none⟩ = some (.int .u64 e.va) ∧ w.cell? ⟨b, 4, none⟩ = some (.bool e.kn)) ∧
  (w.frozen? ⟨b, 0, none⟩ = false ∧ w.frozen? ⟨b, 1, none⟩ = false ∧ w.frozen? ⟨b, 2, none⟩ = false ∧ w.frozen? ⟨b, 3, none⟩ = false ∧ w.frozen? ⟨b, 4, none⟩ = false)
theorem EB.below {W w1 : World} {b : Nat} {e : Est} (h : EB W b e) (hb : Below W.heap.size W w1) : EB w1 b e := by
  obtain ⟨hz, ⟨k0, k1, k2, k3, k4⟩, f0, f1, f2, f3, f4⟩ := h
  exact ⟨Nat.lt_of_lt_of_le hz hb.size, ⟨(hb.cell hz).trans k0, (hb.cell hz).trans k1, (hb.cell hz).trans k2, (hb.cell hz).trans k3, (hb.cell hz).trans k4⟩, (hb.frozen hz).trans f0, (hb.frozen hz).trans f1, (hb.frozen hz).trans f2, (hb.frozen hz).trans f3, (hb.frozen hz).trans f4⟩
theorem EB.newAt {w : World} {b : Nat} (hb : b = w.heap.size) (e : Est) (t : TypeId) : EB (w.alloc (.cells #[.int .u64 e.la, .int .u64 e.le, .int .u64 e.sm, .int .u64 e.va, .bool e.kn] t)) b e := by
  subst hb
  refine ⟨by simp, ⟨?_, ?_, ?_, ?_, ?_⟩, ?_, ?_, ?_, ?_, ?_⟩ <;> simp [go_sem]
theorem EB.store {w : World} {b : Nat} {e d : Est} (h : EB w b e) :
    EB (((((w.setCell ⟨b, 0, none⟩ (.int .u64 d.la)).setCell ⟨b, 1, none⟩ (.int .u64 d.le)).setCell ⟨b, 2, none⟩ (.int .u64 d.sm)).setCell ⟨b, 3, none⟩ (.int .u64 d.va)).setCell ⟨b, 4, none⟩ (.bool d.kn)) b d := by
  obtain ⟨hz, ⟨k0, k1, k2, k3, k4⟩, f0, f1, f2, f3, f4⟩ := h
  refine ⟨by simpa using hz, ⟨?_, ?_, ?_, ?_, ?_⟩, ?_, ?_, ?_, ?_, ?_⟩ <;> simp [go_sem, k0, k1, k2, k3, k4, f0, f1, f2, f3, f4]
theorem EB.far {w : World} {b : Nat} {e : Est} (h : EB w b e) {p : Addr} (hp : b ≠ p.block) (v : Value) : EB (w.setCell p v) b e := by
  obtain ⟨hz, ⟨k0, k1, k2, k3, k4⟩, f0, f1, f2, f3, f4⟩ := h
  have hh : (w.setCell p v).heap[b]? = w.heap[b]? := Below.heap_setCell w p v b hp
  have ec : ∀ i, (w.setCell p v).cell? ⟨b, i, none⟩ = w.cell? ⟨b, i, none⟩ := fun i => World.cell?_of_block (a := ⟨b, i, none⟩) hh
  have ef : ∀ i, (w.setCell p v).frozen? ⟨b, i, none⟩ = w.frozen? ⟨b, i, none⟩ := fun i => World.frozen?_of_block (a := ⟨b, i, none⟩) hh
  exact ⟨by simpa using hz, ⟨(ec 0).trans k0, (ec 1).trans k1, (ec 2).trans k2, (ec 3).trans k3, (ec 4).trans k4⟩, (ef 0).trans f0, (ef 1).trans f1, (ef 2).trans f2, (ef 3).trans f3, (ef 4).trans f4⟩
theorem EB.alloc {w : World} {b : Nat} {e : Est} (h : EB w b e) (o : Obj) : EB (w.alloc o) b e := h.below ((Below.refl _ _).alloc (Nat.le_refl _) _)
theorem EB.drew {w : World} {b : Nat} {e : Est} (h : EB w b e) : EB w.drew b e := h
theorem next {B : Nat} {a w w' : World} (h : Below B a w) (hb : Below w.heap.size w w') (hB : B ≤ w.heap.size) : Below B a w' := h.trans (hb.mono hB)

theorem word_lit {x : Int} (h1 : 0 ≤ x) (h2 : x < 18446744073709551616) : Word x := ⟨h1, h2⟩
theorem first_ok : firstE.Ok := ⟨word_lit (x := 0) (by omega) (by omega), word_lit (x := 0) (by omega) (by omega), word_lit (x := 333) (by omega) (by omega), word_lit (x := 166) (by omega) (by omega)⟩
theorem first_low : firstE.Low := by
  show (0 : Int) ≤ 1099511627776 ∧ (0 : Int) ≤ 1099511627776 ∧ (333 : Int) ≤ 1099511627776 ∧ (166 : Int) ≤ 1099511627776
  omega
theorem a_is : sampleE ⟨0, 0, 333, 166, false⟩ 100 7 = ⟨100, 100, 100, 50, true⟩ := by rfl
theorem b_is : sampleE ⟨100, 100, 100, 50, true⟩ 60 0 = ⟨60, 60, 95, 47, true⟩ := by rfl
theorem a_ok : Est.Ok ⟨100, 100, 100, 50, true⟩ := ⟨word_lit (x := 100) (by omega) (by omega), word_lit (x := 100) (by omega) (by omega), word_lit (x := 100) (by omega) (by omega), word_lit (x := 50) (by omega) (by omega)⟩
theorem zero_ok : Est.Ok ⟨0, 0, 0, 0, false⟩ := ⟨word_lit (x := 0) (by omega) (by omega), word_lit (x := 0) (by omega) (by omega), word_lit (x := 0) (by omega) (by omega), word_lit (x := 0) (by omega) (by omega)⟩
theorem p_is : probeE ⟨100, 100, 100, 50, true⟩ 25 (timesN 1) = 650 := by rfl
theorem w_is : waitE ⟨100, 100, 100, 50, true⟩ = 112 := by rfl
theorem z_is : waitE ⟨0, 0, 0, 0, false⟩ = 1 := by rfl

set_option maxRecDepth 100000 in
set_option maxHeartbeats 4000000 in
theorem awake_any (w : World) : Calls Try.prog 10 #[] w fun r w' => r = .returned (.bool true) ∧ Below w.heap.size w w' := by
  have q24 := eql24
  have es := eqE_self
  go_enter Try.func10, Try.ntmps10
  go_wp2_with fail
  refine (first_any _).mono ?_
  rintro r w' ⟨rfl, c1, rfl⟩
  go_wp2_with fail
  refine (sample_any ⟨0, 0, 333, 166, false⟩ 100 7 first_ok (word_lit (by omega) (by omega)) (word_lit (by omega) (by omega)) _).mono ?_
  rintro r w1 ⟨rfl, hb1⟩
  rw [a_is]
  have hB1 : Below w.heap.size w w1 := next ((Below.refl _ w).alloc (Nat.le_refl _) _) hb1 (by simp)
  have z1 := hB1.size
  have hA := Lib.hid (EB.newAt (w := w1) rfl ⟨100, 100, 100, 50, true⟩ 24)
  clear hb1
  go_wp2_with fail
  refine (sample_any ⟨100, 100, 100, 50, true⟩ 60 0 a_ok (word_lit (by omega) (by omega)) (word_lit (by omega) (by omega)) _).mono ?_
  rintro r w2 ⟨rfl, hb2⟩
  rw [b_is]
  have hA2 := Lib.hid (hA.out.below hb2)
  have hB2 : Below w.heap.size w w2 := next (hB1.alloc z1 _) hb2 (by simp; omega)
  have z2 := hB2.size
  have hA3 := Lib.hid (hA2.out.alloc (.cells #[.int .u64 60, .int .u64 60, .int .u64 95, .int .u64 47, .bool true] 24))
  clear hb2
  go_wp2_with fail
  refine (first_any _).mono ?_
  rintro r w' ⟨rfl, c2, rfl⟩
  have hA4 := Lib.hid (hA3.out.alloc (.cells c2 24))
  have hB4 : Below w.heap.size w ((w2.alloc (.cells #[.int .u64 60, .int .u64 60, .int .u64 95, .int .u64 47, .bool true] 24)).alloc (.cells c2 24)) := (hB2.alloc z2 _).alloc (by simp; omega) _
  have hBb := EB.newAt (w := w2) (b := w2.heap.size) rfl ⟨60, 60, 95, 47, true⟩ 24
  have hBb2 := Lib.hid (hBb.alloc (.cells c2 24))
  obtain ⟨-, ⟨k0, k1, k2, k3, k4⟩, -⟩ := hA4.out
  obtain ⟨-, ⟨b0, b1, b2, b3, b4⟩, -⟩ := hBb2.out
  simp only at k0 k1 k2 k3 k4 b0 b1 b2 b3 b4
  clear hBb
  have z4 := hB4.size
  generalize (w2.alloc (.cells #[.int .u64 60, .int .u64 60, .int .u64 95, .int .u64 47, .bool true] 24)).alloc (.cells c2 24) = w4 at *
  go_wp2_with fail
  refine (probe_any ⟨100, 100, 100, 50, true⟩ a_ok 25 1 (word_lit (by omega) (by omega)) _).mono ?_
  rintro r w5 ⟨rfl, hb5⟩
  rw [p_is]
  have hA5 := Lib.hid (hA4.out.below hb5)
  have hB5 := next hB4 hb5 z4
  have z5 := hB5.size
  clear k0 k1 k2 k3 k4 b0 b1 b2 b3 b4 hb5
  obtain ⟨-, ⟨k0, k1, k2, k3, k4⟩, -⟩ := hA5.out
  simp only at k0 k1 k2 k3 k4
  go_wp2_with fail
  refine (wait_any ⟨100, 100, 100, 50, true⟩ a_ok _).mono ?_
  rintro r w6 ⟨rfl, hb6⟩
  rw [w_is]
  have hB6 := next hB5 hb6 z5
  have z6 := hB6.size
  clear k0 k1 k2 k3 k4 hb6
  go_wp2_with fail
  refine (wait_any ⟨0, 0, 0, 0, false⟩ zero_ok _).mono ?_
  rintro r w7 ⟨rfl, hb7⟩
  rw [z_is]
  go_wp2_with fail
  go_ret
  exact ⟨rfl, next hB6 hb7 z6⟩
end Go.Proofs.Ytipcfpepdmphcaa

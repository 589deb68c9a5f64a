/-
  A control in a block of its own, and what is known of it where the world grows: plain facts on memory.
-/
import Derived.Test.YtiddiiiffjibfaaW2
namespace Go.Proofs.Ytiddiiiffjibfaa
open Go.RowKit

/-- Block b is a control, and may be written. -/
def Blk (w : World) (b : Nat) (c : Ctl) : Prop :=
  b < w.heap.size ∧ w.cell? ⟨b, 0, none⟩ = some (.int .u64 c.w) ∧ w.cell? ⟨b, 1, none⟩ = some (.int .u64 c.l) ∧ w.cell? ⟨b, 2, none⟩ = some (.int .u64 c.s) ∧ w.cell? ⟨b, 3, none⟩ = some (.bool c.f) ∧
  w.frozen? ⟨b, 0, none⟩ = false ∧ w.frozen? ⟨b, 1, none⟩ = false ∧ w.frozen? ⟨b, 2, none⟩ = false ∧ w.frozen? ⟨b, 3, none⟩ = false

theorem Blk.below {W w1 : World} {b : Nat} {c : Ctl} (h : Blk W b c) (hb : Below W.heap.size W w1) : Blk w1 b c := by
  obtain ⟨hz, k0, k1, k2, k3, f0, f1, f2, f3⟩ := h
  exact ⟨Nat.lt_of_lt_of_le hz hb.size, (hb.cell hz).trans k0, (hb.cell hz).trans k1, (hb.cell hz).trans k2, (hb.cell hz).trans k3, (hb.frozen hz).trans f0, (hb.frozen hz).trans f1, (hb.frozen hz).trans f2, (hb.frozen hz).trans f3⟩

theorem Blk.reads {w : World} {b : Nat} {c : Ctl} (h : Blk w b c) :
    (w.cell? ⟨b, 0, none⟩ = some (.int .u64 c.w) ∧ w.cell? ⟨b, 1, none⟩ = some (.int .u64 c.l) ∧ w.cell? ⟨b, 2, none⟩ = some (.int .u64 c.s) ∧ w.cell? ⟨b, 3, none⟩ = some (.bool c.f)) ∧
    (w.frozen? ⟨b, 0, none⟩ = false ∧ w.frozen? ⟨b, 1, none⟩ = false ∧ w.frozen? ⟨b, 2, none⟩ = false ∧ w.frozen? ⟨b, 3, none⟩ = false) ∧
    b < w.heap.size ∧ b ≤ w.heap.size ∧ b ≤ w.heap.size + 1 ∧ b ≤ w.heap.size + 1 + 1 ∧ b ≤ w.heap.size + 1 + 1 + 1 := by
  obtain ⟨hz, k0, k1, k2, k3, f0, f1, f2, f3⟩ := h
  exact ⟨⟨k0, k1, k2, k3⟩, ⟨f0, f1, f2, f3⟩, hz, by omega, by omega, by omega, by omega⟩

theorem Blk.new (w : World) (c : Ctl) (t : TypeId) : Blk (w.alloc (.cells #[.int .u64 c.w, .int .u64 c.l, .int .u64 c.s, .bool c.f] t)) w.heap.size c := by
  refine ⟨by simp, ?_, ?_, ?_, ?_, ?_, ?_, ?_, ?_⟩ <;> simp [go_sem]

theorem Blk.newAt {w : World} {b : Nat} (hb : b = w.heap.size) (c : Ctl) (t : TypeId) : Blk (w.alloc (.cells #[.int .u64 c.w, .int .u64 c.l, .int .u64 c.s, .bool c.f] t)) b c := by
  subst hb; exact Blk.new w c t

theorem cells_of_some {w : World} {a : Addr} {v : Value} (h : w.cell? a = some v) : a.block < w.heap.size := World.block_lt_of_cell? _ _ h

/-- A control is stored over another one. -/
theorem Blk.store {w : World} {b : Nat} {c d : Ctl} (h : Blk w b c) :
    Blk ((((w.setCell ⟨b, 0, none⟩ (.int .u64 d.w)).setCell ⟨b, 1, none⟩ (.int .u64 d.l)).setCell ⟨b, 2, none⟩ (.int .u64 d.s)).setCell ⟨b, 3, none⟩ (.bool d.f)) b d := by
  obtain ⟨hz, k0, k1, k2, k3, f0, f1, f2, f3⟩ := h
  refine ⟨by simpa using hz, ?_, ?_, ?_, ?_, ?_, ?_, ?_, ?_⟩ <;> simp [go_sem, k0, k1, k2, k3, f0, f1, f2, f3]
theorem Blk.far {w : World} {b : Nat} {c : Ctl} (h : Blk w b c) {p : Addr} (hp : b ≠ p.block) (v : Value) : Blk (w.setCell p v) b c := by
  obtain ⟨hz, k0, k1, k2, k3, f0, f1, f2, f3⟩ := h
  have hh : (w.setCell p v).heap[b]? = w.heap[b]? := Below.heap_setCell w p v b hp
  have ec : ∀ i, (w.setCell p v).cell? ⟨b, i, none⟩ = w.cell? ⟨b, i, none⟩ := fun i => World.cell?_of_block (a := ⟨b, i, none⟩) hh
  have ef : ∀ i, (w.setCell p v).frozen? ⟨b, i, none⟩ = w.frozen? ⟨b, i, none⟩ := fun i => World.frozen?_of_block (a := ⟨b, i, none⟩) hh
  exact ⟨by simpa using hz, (ec 0).trans k0, (ec 1).trans k1, (ec 2).trans k2, (ec 3).trans k3, (ef 0).trans f0, (ef 1).trans f1, (ef 2).trans f2, (ef 3).trans f3⟩
theorem Blk.alloc {w : World} {b : Nat} {c : Ctl} (h : Blk w b c) (o : Obj) : Blk (w.alloc o) b c := h.below ((Below.refl _ _).alloc (Nat.le_refl _) _)
theorem Blk.drew {w : World} {b : Nat} {c : Ctl} (h : Blk w b c) : Blk w.drew b c := h
end Go.Proofs.Ytiddiiiffjibfaa

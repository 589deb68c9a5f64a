/-
  Frames and events in blocks of their own.
-/
import Derived.Test.YtiefkpfjmbifcaaW5
namespace Go.Proofs.Ytiefkpfjmbifcaa
open Go.RowKit Go.Maps

def FB (w : World) (b : Nat) (f : Frm) : Prop :=
  w.cell? ⟨b, 0, none⟩ = some (.int .u64 f.k) ∧ w.cell? ⟨b, 1, none⟩ = some (.int .u64 f.a) ∧ w.cell? ⟨b, 2, none⟩ = some (.int .u64 f.b) ∧ w.cell? ⟨b, 3, none⟩ = some (.int .u64 f.c) ∧
  w.cell? ⟨b, 4, none⟩ = some (.bool f.fin) ∧ w.cell? ⟨b, 5, none⟩ = some (.string f.data) ∧ w.cell? ⟨b, 6, none⟩ = some (.string f.more) ∧ w.cell? ⟨b, 7, none⟩ = some (.slice f.la f.ln f.lc)
def EVB (w : World) (b : Nat) (e : Ev) : Prop :=
  w.cell? ⟨b, 0, none⟩ = some (.int .i64 e.k) ∧ w.cell? ⟨b, 1, none⟩ = some (.int .i64 e.sp) ∧ w.cell? ⟨b, 2, none⟩ = some (.int .u64 e.tm) ∧ w.cell? ⟨b, 3, none⟩ = some (.int .u64 e.num) ∧ w.cell? ⟨b, 4, none⟩ = some (.int .u64 e.many) ∧ w.cell? ⟨b, 5, none⟩ = some (.string e.text) ∧
  w.cell? ⟨b, 6, none⟩ = some (.int .u64 e.f.k) ∧ w.cell? ⟨b, 7, none⟩ = some (.int .u64 e.f.a) ∧ w.cell? ⟨b, 8, none⟩ = some (.int .u64 e.f.b) ∧ w.cell? ⟨b, 9, none⟩ = some (.int .u64 e.f.c) ∧
  w.cell? ⟨b, 10, none⟩ = some (.bool e.f.fin) ∧ w.cell? ⟨b, 11, none⟩ = some (.string e.f.data) ∧ w.cell? ⟨b, 12, none⟩ = some (.string e.f.more) ∧ w.cell? ⟨b, 13, none⟩ = some (.slice e.f.la e.f.ln e.f.lc)
/-- A packet's block. -/
def PB (w : World) (b : Nat) (s n : Int) : Prop := w.cell? ⟨b, 0, none⟩ = some (.int .i64 s) ∧ w.cell? ⟨b, 1, none⟩ = some (.int .u64 n)
theorem FB.new {w : World} {b : Nat} (hb : b = w.heap.size) (f : Frm) (t : TypeId) : FB (w.alloc (.cells #[.int .u64 f.k, .int .u64 f.a, .int .u64 f.b, .int .u64 f.c, .bool f.fin, .string f.data, .string f.more, .slice f.la f.ln f.lc] t)) b f := by
  subst hb
  refine ⟨?_, ?_, ?_, ?_, ?_, ?_, ?_, ?_⟩ <;> simp [go_sem]
theorem EVB.new {w : World} {b : Nat} (hb : b = w.heap.size) (e : Ev) (t : TypeId) : EVB (w.alloc (.cells #[.int .i64 e.k, .int .i64 e.sp, .int .u64 e.tm, .int .u64 e.num, .int .u64 e.many, .string e.text, .int .u64 e.f.k, .int .u64 e.f.a, .int .u64 e.f.b, .int .u64 e.f.c, .bool e.f.fin, .string e.f.data, .string e.f.more, .slice e.f.la e.f.ln e.f.lc] t)) b e := by
  subst hb
  refine ⟨?_, ?_, ?_, ?_, ?_, ?_, ?_, ?_, ?_, ?_, ?_, ?_, ?_, ?_⟩ <;> simp [go_sem]
theorem FB.block {w w' : World} {b : Nat} {f : Frm} (h : FB w b f) (hh : w'.heap[b]? = w.heap[b]?) : FB w' b f := by
  have ec : ∀ i, w'.cell? ⟨b, i, none⟩ = w.cell? ⟨b, i, none⟩ := fun i => World.cell?_of_block (a := ⟨b, i, none⟩) hh
  unfold FB
  simp only [ec]
  exact h
theorem EVB.block {w w' : World} {b : Nat} {e : Ev} (h : EVB w b e) (hh : w'.heap[b]? = w.heap[b]?) : EVB w' b e := by
  have ec : ∀ i, w'.cell? ⟨b, i, none⟩ = w.cell? ⟨b, i, none⟩ := fun i => World.cell?_of_block (a := ⟨b, i, none⟩) hh
  unfold EVB
  simp only [ec]
  exact h
theorem PB.block {w w' : World} {b : Nat} {s n : Int} (h : PB w b s n) (hh : w'.heap[b]? = w.heap[b]?) : PB w' b s n := by
  have ec : ∀ i, w'.cell? ⟨b, i, none⟩ = w.cell? ⟨b, i, none⟩ := fun i => World.cell?_of_block (a := ⟨b, i, none⟩) hh
  unfold PB
  simp only [ec]
  exact h
theorem FB.lt {w : World} {b : Nat} {f : Frm} (h : FB w b f) : b < w.heap.size := World.block_lt_of_cell? _ _ h.1
theorem EVB.lt {w : World} {b : Nat} {e : Ev} (h : EVB w b e) : b < w.heap.size := World.block_lt_of_cell? _ _ h.1
theorem PB.lt {w : World} {b : Nat} {s n : Int} (h : PB w b s n) : b < w.heap.size := World.block_lt_of_cell? _ _ h.1
theorem FB.below {w w' : World} {b : Nat} {f : Frm} (h : FB w b f) (hb : Below w.heap.size w w') : FB w' b f := h.block (hb.block _ h.lt)
theorem EVB.below {w w' : World} {b : Nat} {e : Ev} (h : EVB w b e) (hb : Below w.heap.size w w') : EVB w' b e := h.block (hb.block _ h.lt)
theorem PB.below {w w' : World} {b : Nat} {s n : Int} (h : PB w b s n) (hb : Below w.heap.size w w') : PB w' b s n := h.block (hb.block _ h.lt)
theorem FB.kept {M : Mem} {w w' : World} {b : Nat} {f : Frm} (h : FB w b f) (hk : Kept M w w') (hn : ¬ M.owns b) : FB w' b f := h.block (hk.2 _ h.lt hn)
theorem EVB.kept {M : Mem} {w w' : World} {b : Nat} {e : Ev} (h : EVB w b e) (hk : Kept M w w') (hn : ¬ M.owns b) : EVB w' b e := h.block (hk.2 _ h.lt hn)
theorem PB.kept {M : Mem} {w w' : World} {b : Nat} {s n : Int} (h : PB w b s n) (hk : Kept M w w') (hn : ¬ M.owns b) : PB w' b s n := h.block (hk.2 _ h.lt hn)
theorem FB.drew {w : World} {b : Nat} {f : Frm} (h : FB w b f) : FB w.drew b f := h
theorem EVB.drew {w : World} {b : Nat} {e : Ev} (h : EVB w b e) : EVB w.drew b e := h
theorem PB.drew {w : World} {b : Nat} {s n : Int} (h : PB w b s n) : PB w.drew b s n := h
/-- What is not the checker's stays so. -/
theorem Grew.not {w : World} {M M' : Mem} (h : Grew w M M') {b : Nat} (hb : b < w.heap.size) (hn : ¬ M.owns b) : ¬ M'.owns b := fun ho => by
  rcases h.2.2.1 b ho with h1 | h1
  · exact hn h1
  · omega
theorem CK.far {w : World} {M : Mem} {n : Nat} {s : St} (h : CK w M n s) {b : Nat} (hb : w.heap.size ≤ b) : ¬ M.owns b := fun ho => by have := h.lt ho; omega
end Go.Proofs.Ytiefkpfjmbifcaa

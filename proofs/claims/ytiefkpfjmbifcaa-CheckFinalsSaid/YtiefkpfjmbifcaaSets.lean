/-
  One cell of the checker, or of a stream, is written.
-/
import Derived.Test.YtiefkpfjmbifcaaBox
namespace Go.Proofs.Ytiefkpfjmbifcaa
open Go.RowKit Go.Maps

theorem Row.setCell {w : World} {p : Nat} (h : Row w p) (i : Nat) (v : Value) : Row (w.setCell ⟨p, i, none⟩ v) p := by
  obtain ⟨cs, t, h⟩ := h
  refine ⟨cs.setIfInBounds i v, t, ?_⟩
  simp [World.setCell, Array.getElem?_modify, h]
theorem free_setCell {w : World} {b n : Nat} (h : Free w b n) (a : Addr) (v : Value) : Free (w.setCell a v) b n := fun i hi => by
  rw [World.frozen?_setCell]
  exact h i hi
theorem SB.set0 {w : World} {p : Nat} {x : Strm} (h : SB w p x) (v : Int) : SB (w.setCell ⟨p, 0, none⟩ (.int .u64 v)) p { x with wide := v } := by
  obtain ⟨⟨q0, q1, q2, q3, q4, q5, q6⟩, hf, hr⟩ := h
  refine ⟨⟨?_, ?_, ?_, ?_, ?_, ?_, ?_⟩, free_setCell hf _ _, hr.setCell _ _⟩ <;> simp [go_sem, q0, q1, q2, q3, q4, q5, q6]
theorem SB.set1 {w : World} {p : Nat} {x : Strm} (h : SB w p x) (v : Int) : SB (w.setCell ⟨p, 1, none⟩ (.int .u64 v)) p { x with sent := v } := by
  obtain ⟨⟨q0, q1, q2, q3, q4, q5, q6⟩, hf, hr⟩ := h
  refine ⟨⟨?_, ?_, ?_, ?_, ?_, ?_, ?_⟩, free_setCell hf _ _, hr.setCell _ _⟩ <;> simp [go_sem, q0, q1, q2, q3, q4, q5, q6]
theorem SB.set2 {w : World} {p : Nat} {x : Strm} (h : SB w p x) (v : Int) : SB (w.setCell ⟨p, 2, none⟩ (.int .u64 v)) p { x with final := v } := by
  obtain ⟨⟨q0, q1, q2, q3, q4, q5, q6⟩, hf, hr⟩ := h
  refine ⟨⟨?_, ?_, ?_, ?_, ?_, ?_, ?_⟩, free_setCell hf _ _, hr.setCell _ _⟩ <;> simp [go_sem, q0, q1, q2, q3, q4, q5, q6]
theorem SB.set3 {w : World} {p : Nat} {x : Strm} (h : SB w p x) (v : Bool) : SB (w.setCell ⟨p, 3, none⟩ (.bool v)) p { x with known := v } := by
  obtain ⟨⟨q0, q1, q2, q3, q4, q5, q6⟩, hf, hr⟩ := h
  refine ⟨⟨?_, ?_, ?_, ?_, ?_, ?_, ?_⟩, free_setCell hf _ _, hr.setCell _ _⟩ <;> simp [go_sem, q0, q1, q2, q3, q4, q5, q6]
theorem SB.set4 {w : World} {p : Nat} {x : Strm} (h : SB w p x) (v : Bool) : SB (w.setCell ⟨p, 4, none⟩ (.bool v)) p { x with reset := v } := by
  obtain ⟨⟨q0, q1, q2, q3, q4, q5, q6⟩, hf, hr⟩ := h
  refine ⟨⟨?_, ?_, ?_, ?_, ?_, ?_, ?_⟩, free_setCell hf _ _, hr.setCell _ _⟩ <;> simp [go_sem, q0, q1, q2, q3, q4, q5, q6]
theorem SB.set5 {w : World} {p : Nat} {x : Strm} (h : SB w p x) (v : Int) : SB (w.setCell ⟨p, 5, none⟩ (.int .u64 v)) p { x with came := v } := by
  obtain ⟨⟨q0, q1, q2, q3, q4, q5, q6⟩, hf, hr⟩ := h
  refine ⟨⟨?_, ?_, ?_, ?_, ?_, ?_, ?_⟩, free_setCell hf _ _, hr.setCell _ _⟩ <;> simp [go_sem, q0, q1, q2, q3, q4, q5, q6]
theorem SB.set6 {w : World} {p : Nat} {x : Strm} (h : SB w p x) (v : Int) : SB (w.setCell ⟨p, 6, none⟩ (.int .u64 v)) p { x with moved := v } := by
  obtain ⟨⟨q0, q1, q2, q3, q4, q5, q6⟩, hf, hr⟩ := h
  refine ⟨⟨?_, ?_, ?_, ?_, ?_, ?_, ?_⟩, free_setCell hf _ _, hr.setCell _ _⟩ <;> simp [go_sem, q0, q1, q2, q3, q4, q5, q6]
/-- A stream's cell is written. -/
theorem CK.putS {w : World} {M : Mem} {n : Nat} {s : St} (h : CK w M n s) {id : Int} {p i : Nat} {v : Value} (hp : M.g id = some p) {x : Strm} (hx : SB (w.setCell ⟨p, i, none⟩ v) p x) : CK (w.setCell ⟨p, i, none⟩ v) M n (s.upd id x) ∧ Kept M w (w.setCell ⟨p, i, none⟩ v) :=
  ⟨h.setS hp hx (fun b hb => Below.heap_setCell w ⟨p, i, none⟩ v b hb), Kept.setCell (.inr ⟨id, hp⟩) v⟩
theorem CK.putB {w : World} {M : Mem} {n : Nat} {s s' : St} (h : CK w M n s) {i : Nat} {v : Value} (hc : Cells (w.setCell ⟨M.B, i, none⟩ v) M s')
    (e1 : s'.sent = s.sent) (e2 : s'.asks = s.asks) (e3 : s'.got = s.got) (e4 : s'.settled = s.settled) (e5 : s'.strm = s.strm) (e6 : s'.total = s.total) (hg : Whole s'.gs ∧ Word s'.gn) :
    CK (w.setCell ⟨M.B, i, none⟩ v) M n s' ∧ Kept M w (w.setCell ⟨M.B, i, none⟩ v) :=
  ⟨h.setB hc (free_setCell h.free _ _) (fun b hb => Below.heap_setCell w ⟨M.B, i, none⟩ v b hb) e1 e2 e3 e4 e5 e6 hg, Kept.setCell (.inl M.fix_mem.1) v⟩
theorem CK.put_clock {w : World} {M : Mem} {n : Nat} {s : St} (h : CK w M n s) (v : Int) : CK (w.setCell ⟨M.B, 1, none⟩ (.int .u64 v)) M n { s with clock := v } ∧ Kept M w (w.setCell ⟨M.B, 1, none⟩ (.int .u64 v)) := by
  refine h.putB ?_ rfl rfl rfl rfl rfl rfl h.going
  obtain ⟨k0, k1, k2, k3, k4, k5, k6, k7, k8, k9, k10, k11, k12, ⟨k13, k14, k15, k16, k17, k18, k19, k20, k21, k22⟩, k23, k24⟩ := h.cells
  unfold Cells
  simp [go_sem, k0, k1, k2, k3, k4, k5, k6, k7, k8, k9, k10, k11, k12, k13, k14, k15, k16, k17, k18, k19, k20, k21, k22, k23, k24]
theorem CK.put_state {w : World} {M : Mem} {n : Nat} {s : St} (h : CK w M n s) (v : Int) : CK (w.setCell ⟨M.B, 2, none⟩ (.int .u64 v)) M n { s with state := v } ∧ Kept M w (w.setCell ⟨M.B, 2, none⟩ (.int .u64 v)) := by
  refine h.putB ?_ rfl rfl rfl rfl rfl rfl h.going
  obtain ⟨k0, k1, k2, k3, k4, k5, k6, k7, k8, k9, k10, k11, k12, ⟨k13, k14, k15, k16, k17, k18, k19, k20, k21, k22⟩, k23, k24⟩ := h.cells
  unfold Cells
  simp [go_sem, k0, k1, k2, k3, k4, k5, k6, k7, k8, k9, k10, k11, k12, k13, k14, k15, k16, k17, k18, k19, k20, k21, k22, k23, k24]
theorem CK.put_gs {w : World} {M : Mem} {n : Nat} {s : St} (h : CK w M n s) (v : Int) (hv : Whole v) : CK (w.setCell ⟨M.B, 3, none⟩ (.int .i64 v)) M n { s with gs := v } ∧ Kept M w (w.setCell ⟨M.B, 3, none⟩ (.int .i64 v)) := by
  refine h.putB ?_ rfl rfl rfl rfl rfl rfl ⟨hv, h.going.2⟩
  obtain ⟨k0, k1, k2, k3, k4, k5, k6, k7, k8, k9, k10, k11, k12, ⟨k13, k14, k15, k16, k17, k18, k19, k20, k21, k22⟩, k23, k24⟩ := h.cells
  unfold Cells
  simp [go_sem, k0, k1, k2, k3, k4, k5, k6, k7, k8, k9, k10, k11, k12, k13, k14, k15, k16, k17, k18, k19, k20, k21, k22, k23, k24]
theorem CK.put_gn {w : World} {M : Mem} {n : Nat} {s : St} (h : CK w M n s) (v : Int) (hv : Word v) : CK (w.setCell ⟨M.B, 4, none⟩ (.int .u64 v)) M n { s with gn := v } ∧ Kept M w (w.setCell ⟨M.B, 4, none⟩ (.int .u64 v)) := by
  refine h.putB ?_ rfl rfl rfl rfl rfl rfl ⟨h.going.1, hv⟩
  obtain ⟨k0, k1, k2, k3, k4, k5, k6, k7, k8, k9, k10, k11, k12, ⟨k13, k14, k15, k16, k17, k18, k19, k20, k21, k22⟩, k23, k24⟩ := h.cells
  unfold Cells
  simp [go_sem, k0, k1, k2, k3, k4, k5, k6, k7, k8, k9, k10, k11, k12, k13, k14, k15, k16, k17, k18, k19, k20, k21, k22, k23, k24]
theorem CK.put_left {w : World} {M : Mem} {n : Nat} {s : St} (h : CK w M n s) (v : Int) : CK (w.setCell ⟨M.B, 5, none⟩ (.int .u64 v)) M n { s with left := v } ∧ Kept M w (w.setCell ⟨M.B, 5, none⟩ (.int .u64 v)) := by
  refine h.putB ?_ rfl rfl rfl rfl rfl rfl h.going
  obtain ⟨k0, k1, k2, k3, k4, k5, k6, k7, k8, k9, k10, k11, k12, ⟨k13, k14, k15, k16, k17, k18, k19, k20, k21, k22⟩, k23, k24⟩ := h.cells
  unfold Cells
  simp [go_sem, k0, k1, k2, k3, k4, k5, k6, k7, k8, k9, k10, k11, k12, k13, k14, k15, k16, k17, k18, k19, k20, k21, k22, k23, k24]
theorem CK.put_stage {w : World} {M : Mem} {n : Nat} {s : St} (h : CK w M n s) (v : Int) : CK (w.setCell ⟨M.B, 6, none⟩ (.int .i64 v)) M n { s with stage := v } ∧ Kept M w (w.setCell ⟨M.B, 6, none⟩ (.int .i64 v)) := by
  refine h.putB ?_ rfl rfl rfl rfl rfl rfl h.going
  obtain ⟨k0, k1, k2, k3, k4, k5, k6, k7, k8, k9, k10, k11, k12, ⟨k13, k14, k15, k16, k17, k18, k19, k20, k21, k22⟩, k23, k24⟩ := h.cells
  unfold Cells
  simp [go_sem, k0, k1, k2, k3, k4, k5, k6, k7, k8, k9, k10, k11, k12, k13, k14, k15, k16, k17, k18, k19, k20, k21, k22, k23, k24]
theorem CK.put_coming {w : World} {M : Mem} {n : Nat} {s : St} (h : CK w M n s) (v : Int) : CK (w.setCell ⟨M.B, 7, none⟩ (.int .i64 v)) M n { s with coming := v } ∧ Kept M w (w.setCell ⟨M.B, 7, none⟩ (.int .i64 v)) := by
  refine h.putB ?_ rfl rfl rfl rfl rfl rfl h.going
  obtain ⟨k0, k1, k2, k3, k4, k5, k6, k7, k8, k9, k10, k11, k12, ⟨k13, k14, k15, k16, k17, k18, k19, k20, k21, k22⟩, k23, k24⟩ := h.cells
  unfold Cells
  simp [go_sem, k0, k1, k2, k3, k4, k5, k6, k7, k8, k9, k10, k11, k12, k13, k14, k15, k16, k17, k18, k19, k20, k21, k22, k23, k24]
theorem CK.put_rest {w : World} {M : Mem} {n : Nat} {s : St} (h : CK w M n s) (v : Int) : CK (w.setCell ⟨M.B, 8, none⟩ (.int .u64 v)) M n { s with rest := v } ∧ Kept M w (w.setCell ⟨M.B, 8, none⟩ (.int .u64 v)) := by
  refine h.putB ?_ rfl rfl rfl rfl rfl rfl h.going
  obtain ⟨k0, k1, k2, k3, k4, k5, k6, k7, k8, k9, k10, k11, k12, ⟨k13, k14, k15, k16, k17, k18, k19, k20, k21, k22⟩, k23, k24⟩ := h.cells
  unfold Cells
  simp [go_sem, k0, k1, k2, k3, k4, k5, k6, k7, k8, k9, k10, k11, k12, k13, k14, k15, k16, k17, k18, k19, k20, k21, k22, k23, k24]
theorem CK.put_wide {w : World} {M : Mem} {n : Nat} {s : St} (h : CK w M n s) (v : Int) : CK (w.setCell ⟨M.B, 23, none⟩ (.int .u64 v)) M n { s with wide := v } ∧ Kept M w (w.setCell ⟨M.B, 23, none⟩ (.int .u64 v)) := by
  refine h.putB ?_ rfl rfl rfl rfl rfl rfl h.going
  obtain ⟨k0, k1, k2, k3, k4, k5, k6, k7, k8, k9, k10, k11, k12, ⟨k13, k14, k15, k16, k17, k18, k19, k20, k21, k22⟩, k23, k24⟩ := h.cells
  unfold Cells
  simp [go_sem, k0, k1, k2, k3, k4, k5, k6, k7, k8, k9, k10, k11, k12, k13, k14, k15, k16, k17, k18, k19, k20, k21, k22, k23, k24]
end Go.Proofs.Ytiefkpfjmbifcaa

/-
  What is minded of an event that broke no rule: the walk.
-/
import Derived.Test.YtiefkpfjmbifcaaW8
import Derived.BigRegion
namespace Go.Proofs.Ytiefkpfjmbifcaa
open Go.RowKit Go.Maps

/-- What the parameters' bytes are read as. -/
def NumsOk (N : ByteArray → Nat → Int) : Prop := ∀ (t : ByteArray) (w : World), t.size ≤ 9223372036854775807 →
  Calls Try.prog 24 #[.string t] w fun r w' => r = .returned (.agg #[.int .u64 (N t 0), .int .u64 (N t 1), .int .u64 (N t 2), .int .u64 (N t 3), .int .u64 (N t 4), .int .u64 (N t 5), .int .u64 (N t 6), .int .u64 (N t 7), .int .u64 (N t 8), .int .u64 (N t 9)]) ∧ Below w.heap.size w w'
def nextF (s : St) : St := if s.left = 0 then { s with stage := 2 } else s
def leftF (s : St) : St := nextF { s with left := IntKind.u64.wrap (s.left - 1) }
def learnF (N : ByteArray → Nat → Int) (s : St) (e : Ev) : St :=
  if e.k = 3 then { s with clock := e.num }
  else if e.k = 14 then { s with state := e.num }
  else if e.k = 5 then nextF { s with sent := setU s.sent e.sp (IntKind.u64.wrap (s.sent e.sp + 1)), gs := e.sp, gn := e.num, left := e.many, stage := 1 }
  else if e.k = 8 then toldF (leftF s) e.f
  else if e.k = 4 then { s with stage := 3 }
  else if e.k = 12 then { s with stage := 0 }
  else if e.k = 6 then { s with got := setB s.got e.sp e.num, coming := e.sp, rest := e.many }
  else if e.k = 9 then heardF { s with rest := IntKind.u64.wrap (s.rest - 1) } e.f
  else if e.k = 11 ∨ e.k = 10 then { s with settled := setB s.settled e.sp e.num }
  else if e.k = 13 then s.upd e.num { s.strm e.num with moved := IntKind.u64.wrap ((s.strm e.num).moved + e.many) }
  else if e.k = 15 then { s with lim := N e.text } else s
theorem ck_sent {w w' : World} {M : Mem} {n : Nat} {s : St} (h : CK w M n s) {g : Int → Int} (ht : w.mapTurned w' M.m1) (hm : MapU w' M.m1 (n + 1) g) : CK w' M (n + 1) { s with sent := g } ∧ Kept M w w' := by
  have hnd := h.nd
  simp [Mem.fix] at hnd
  obtain ⟨⟨a1, a2, a3, a4, a5⟩, ⟨b2, b3, b4, b5⟩, ⟨c3, c4, c5⟩, ⟨d4, d5⟩, d6⟩ := hnd
  refine ⟨h.setM M.m1 (.inl rfl) (by omega) ht ?_ ?_ ?_ ?_ (fun _ h => h) rfl rfl rfl rfl, Kept.turned (.inl M.fix_mem.2.1) ht⟩
  · rw [if_pos rfl]; exact hm
  · rw [if_neg b2]
  · rw [if_neg b3]
  · rw [if_neg b4]
theorem ck_got {w w' : World} {M : Mem} {n : Nat} {s : St} (h : CK w M n s) {g : Int → Int → Bool} (ht : w.mapTurned w' M.m3) (hm : MapB w' M.m3 (n + 1) g) : CK w' M (n + 1) { s with got := g } ∧ Kept M w w' := by
  have hnd := h.nd
  simp [Mem.fix] at hnd
  obtain ⟨⟨a1, a2, a3, a4, a5⟩, ⟨b2, b3, b4, b5⟩, ⟨c3, c4, c5⟩, ⟨d4, d5⟩, d6⟩ := hnd
  refine ⟨h.setM M.m3 (.inr (.inr (.inl rfl))) (by omega) ht ?_ ?_ ?_ ?_ (fun _ h => h) rfl rfl rfl rfl, Kept.turned (.inl M.fix_mem.2.2.2.1) ht⟩
  · rw [if_neg (Ne.symm b3)]
  · rw [if_neg (Ne.symm c3)]
  · rw [if_pos rfl]; exact hm
  · rw [if_neg d4]
theorem ck_settled {w w' : World} {M : Mem} {n : Nat} {s : St} (h : CK w M n s) {g : Int → Int → Bool} (ht : w.mapTurned w' M.m4) (hm : MapB w' M.m4 (n + 1) g) : CK w' M (n + 1) { s with settled := g } ∧ Kept M w w' := by
  have hnd := h.nd
  simp [Mem.fix] at hnd
  obtain ⟨⟨a1, a2, a3, a4, a5⟩, ⟨b2, b3, b4, b5⟩, ⟨c3, c4, c5⟩, ⟨d4, d5⟩, d6⟩ := hnd
  refine ⟨h.setM M.m4 (.inr (.inr (.inr rfl))) (by omega) ht ?_ ?_ ?_ ?_ (fun _ h => h) rfl rfl rfl rfl, Kept.turned (.inl M.fix_mem.2.2.2.2.1) ht⟩
  · rw [if_neg (Ne.symm b4)]
  · rw [if_neg (Ne.symm c4)]
  · rw [if_neg (Ne.symm d4)]
  · rw [if_pos rfl]; exact hm
theorem ck_lim {w : World} {M : Mem} {n : Nat} {s : St} (h : CK w M n s) (L : Nat → Int) :
    CK ((((((((((w.setCell ⟨M.B, 13, none⟩ (.int .u64 (L 0))).setCell ⟨M.B, 14, none⟩ (.int .u64 (L 1))).setCell ⟨M.B, 15, none⟩ (.int .u64 (L 2))).setCell ⟨M.B, 16, none⟩ (.int .u64 (L 3))).setCell ⟨M.B, 17, none⟩ (.int .u64 (L 4))).setCell ⟨M.B, 18, none⟩ (.int .u64 (L 5))).setCell ⟨M.B, 19, none⟩ (.int .u64 (L 6))).setCell ⟨M.B, 20, none⟩ (.int .u64 (L 7))).setCell ⟨M.B, 21, none⟩ (.int .u64 (L 8))).setCell ⟨M.B, 22, none⟩ (.int .u64 (L 9))) M n { s with lim := L } ∧
    Kept M w ((((((((((w.setCell ⟨M.B, 13, none⟩ (.int .u64 (L 0))).setCell ⟨M.B, 14, none⟩ (.int .u64 (L 1))).setCell ⟨M.B, 15, none⟩ (.int .u64 (L 2))).setCell ⟨M.B, 16, none⟩ (.int .u64 (L 3))).setCell ⟨M.B, 17, none⟩ (.int .u64 (L 4))).setCell ⟨M.B, 18, none⟩ (.int .u64 (L 5))).setCell ⟨M.B, 19, none⟩ (.int .u64 (L 6))).setCell ⟨M.B, 20, none⟩ (.int .u64 (L 7))).setCell ⟨M.B, 21, none⟩ (.int .u64 (L 8))).setCell ⟨M.B, 22, none⟩ (.int .u64 (L 9))) := by
  have ho : M.owns M.B := .inl M.fix_mem.1
  refine ⟨h.setB ?_ ?_ (fun b hb => ?_) rfl rfl rfl rfl rfl rfl h.going, ?_⟩
  · obtain ⟨k0, k1, k2, k3, k4, k5, k6, k7, k8, k9, k10, k11, k12, ⟨k13, k14, k15, k16, k17, k18, k19, k20, k21, k22⟩, k23, k24⟩ := h.cells
    unfold Cells
    simp [go_sem, k0, k1, k2, k3, k4, k5, k6, k7, k8, k9, k10, k11, k12, k13, k14, k15, k16, k17, k18, k19, k20, k21, k22, k23, k24]
  · repeat' apply free_setCell
    exact h.free
  · simp only [Below.heap_setCell _ (Addr.mk M.B _ none) _ b hb]
  · exact (((((((((Kept.setCell (a := ⟨M.B, 13, none⟩) ho (.int .u64 (L 0))).trans1 (Kept.setCell (a := ⟨M.B, 14, none⟩) ho (.int .u64 (L 1)))).trans1 (Kept.setCell (a := ⟨M.B, 15, none⟩) ho (.int .u64 (L 2)))).trans1 (Kept.setCell (a := ⟨M.B, 16, none⟩) ho (.int .u64 (L 3)))).trans1 (Kept.setCell (a := ⟨M.B, 17, none⟩) ho (.int .u64 (L 4)))).trans1 (Kept.setCell (a := ⟨M.B, 18, none⟩) ho (.int .u64 (L 5)))).trans1 (Kept.setCell (a := ⟨M.B, 19, none⟩) ho (.int .u64 (L 6)))).trans1 (Kept.setCell (a := ⟨M.B, 20, none⟩) ho (.int .u64 (L 7)))).trans1 (Kept.setCell (a := ⟨M.B, 21, none⟩) ho (.int .u64 (L 8)))).trans1 (Kept.setCell (a := ⟨M.B, 22, none⟩) ho (.int .u64 (L 9)))
end Go.Proofs.Ytiefkpfjmbifcaa

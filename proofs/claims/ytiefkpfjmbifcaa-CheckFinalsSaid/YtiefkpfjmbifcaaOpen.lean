/-
  How a list of events that comes in is read: cell by cell.
-/
import Derived.Test.YtiefkpfjmbifcaaEx
import Derived.ProofKit
import Derived.Lib.SmallJoins
import Derived.Deep.Slices
import Derived.Deep.Fields
import Derived.ChangeSame
import Derived.OpenShut
namespace Go.Proofs.Ytiefkpfjmbifcaa
open Go.Joins Go.ChangeShapes Go.WideShapes Go.RowKit Go.Deep
theorem word_of_wf {x : Int} (h : (Lit.int .u64 x).wf = true) : Word x := by
  simp [Lit.wf, IntKind.min, IntKind.max, IntKind.signed, IntKind.bits] at h
  exact ⟨by omega, by omega⟩
theorem whole_of_wf {x : Int} (h : (Lit.int .i64 x).wf = true) : Whole x := by
  simp [Lit.wf, IntKind.min, IntKind.max, IntKind.signed, IntKind.bits] at h
  exact ⟨by omega, by omega⟩
theorem add_at (b off : Nat) (k : Nat) : (Addr.mk b off none).add k = ⟨b, off + k, none⟩ := by
  unfold Addr.add; split
  · rename_i h; subst h; rfl
  · rfl
section
variable {H : Type} {enc : TypeId × Value → H} {W : World}
theorem rng_of {fuel : Nat} {v : Value} {x : DataW H × List MemPlace} (h : DataW.trod enc Try.prog W 0 (fun _ => true) true fuel 34 [v] = some x) :
    ∃ (la : Option Addr) (ln lc : Nat) (rs : Nat → Int × Int), v = .slice la ln lc ∧ Rng W W.heap.size la ln rs ∧ ln ≤ 9223372036854775807 := by
  have hC : Try.prog.cellsOf 46 = 2 := by kernel_rfl
  have hC1 : Try.prog.cellsOf 33 = 1 := by kernel_rfl
  rcases open_slice Try.underlying34 h with ⟨hcs, -⟩ | ⟨A, l, c, m, n, D, Pl, hcs, -, hl, hm, hmm, -, hi⟩
  · simp at hcs
    subst hcs
    exact ⟨none, 0, 0, fun _ => (0, 0), rfl, fun k hk => absurd hk (by omega), by omega⟩
  · simp at hcs
    subst hcs
    have key : ∀ i, ∃ d : Int × Int, i < l → ∃ b off, A = ⟨b, off, none⟩ ∧ b < W.heap.size ∧ W.cell? ⟨b, off + i * 2, none⟩ = some (.int .u64 d.1) ∧ W.cell? ⟨b, off + i * 2 + 1, none⟩ = some (.int .u64 d.2) ∧ Word d.1 ∧ Word d.2 := by
      intro i
      by_cases hil : i < l
      · have him : i < m := by rw [hmm]; simp; omega
        obtain ⟨cs', hcells, ht⟩ := hi i him
        rw [hC] at hcells
        obtain ⟨_, hcl, hat⟩ := World.cells?_some hcells
        obtain ⟨ys, n', -, -, -, hyl, hf⟩ := DataW.trod_struct Try.underlying46 ht
        have c0 := hat 0 (by omega)
        have c1 := hat 1 (by omega)
        match cs', hcl, ys, hyl with
        | [v0, v1], _, [y0, y1], _ =>
          have t0 := hf 0 _ rfl
          have t1 := hf 1 _ rfl
          simp [hC1] at t0 t1 c0 c1
          obtain ⟨k0, e0, -, w0⟩ := DataW.trod_int Try.underlying33 t0
          obtain ⟨k1, e1, -, w1⟩ := DataW.trod_int Try.underlying33 t1
          simp at e0 e1
          subst e0 e1
          obtain ⟨b, off, spot⟩ := A
          have hspot : spot = none := by
            obtain ⟨cs0, hcells0, -⟩ := hi 0 (by omega)
            rw [hC] at hcells0
            obtain ⟨_, hcl0, hat0⟩ := World.cells?_some hcells0
            have c' := hat0 0 (by omega)
            rw [List.getElem?_eq_getElem (by omega)] at c'
            simpa [Addr.add] using World.cell?_spot c'
          subst hspot
          rw [add_at] at c0 c1
          rw [add_at] at c1
          have hb : b < W.heap.size := World.block_lt_of_cell? _ _ c1
          exact ⟨(k0, k1), fun _ => ⟨b, off, rfl, hb, by simpa [add_at] using c0, c1, word_of_wf w0, word_of_wf w1⟩⟩
      · exact ⟨(0, 0), fun h => absurd h hil⟩
    refine ⟨some A, l, c, fun i => Classical.choose (key i), rfl, fun k hk => ?_, by unfold maxLen at hm; omega⟩
    obtain ⟨b, off, e, r⟩ := Classical.choose_spec (key k) hk
    exact ⟨b, off, by rw [e], r⟩
theorem frm_of {fuel : Nat} {v0 v1 v2 v3 v4 v5 v6 v7 : Value} {x : DataW H × List MemPlace} (h : DataW.trod enc Try.prog W 0 (fun _ => true) true fuel 36 [v0, v1, v2, v3, v4, v5, v6, v7] = some x) :
    ∃ f : Frm, v0 = .int .u64 f.k ∧ v1 = .int .u64 f.a ∧ v2 = .int .u64 f.b ∧ v3 = .int .u64 f.c ∧ v4 = .bool f.fin ∧ v5 = .string f.data ∧ v6 = .string f.more ∧ v7 = .slice f.la f.ln f.lc ∧ f.Ok ∧ Rng W W.heap.size f.la f.ln f.rs := by
  have hC : Try.prog.cellsOf 33 = 1 := by kernel_rfl
  have hC4 : Try.prog.cellsOf 4 = 1 := by kernel_rfl
  have hC9 : Try.prog.cellsOf 9 = 1 := by kernel_rfl
  have hC34 : Try.prog.cellsOf 34 = 1 := by kernel_rfl
  obtain ⟨ys, n', -, -, -, hyl, hf⟩ := DataW.trod_struct Try.underlying36 h
  match ys, hyl with
  | [y0, y1, y2, y3, y4, y5, y6, y7], _ =>
    have t0 := hf 0 _ rfl
    have t1 := hf 1 _ rfl
    have t2 := hf 2 _ rfl
    have t3 := hf 3 _ rfl
    have t4 := hf 4 _ rfl
    have t5 := hf 5 _ rfl
    have t6 := hf 6 _ rfl
    have t7 := hf 7 _ rfl
    simp [hC, hC4, hC9, hC34] at t0 t1 t2 t3 t4 t5 t6 t7
    obtain ⟨k0, e0, -, w0⟩ := DataW.trod_int Try.underlying33 t0
    obtain ⟨k1, e1, -, w1⟩ := DataW.trod_int Try.underlying33 t1
    obtain ⟨k2, e2, -, w2⟩ := DataW.trod_int Try.underlying33 t2
    obtain ⟨k3, e3, -, w3⟩ := DataW.trod_int Try.underlying33 t3
    obtain ⟨k4, e4, -⟩ := DataW.trod_bool Try.underlying4 t4
    obtain ⟨k5, e5, -, w5⟩ := DataW.trod_string Try.underlying9 t5
    obtain ⟨k6, e6, -, w6⟩ := DataW.trod_string Try.underlying9 t6
    obtain ⟨la, ln, lc, rs, e7, hr, hl⟩ := rng_of t7
    simp at e0 e1 e2 e3 e4 e5 e6
    subst e0 e1 e2 e3 e4 e5 e6 e7
    exact ⟨⟨k0, k1, k2, k3, k4, k5, k6, la, ln, lc, rs⟩, rfl, rfl, rfl, rfl, rfl, rfl, rfl, rfl, ⟨word_of_wf w0, word_of_wf w1, word_of_wf w2, word_of_wf w3, by unfold maxLen at w5; simp; omega, hl⟩, hr⟩
theorem ev_of {fuel : Nat} {v0 v1 v2 v3 v4 v5 v6 v7 v8 v9 v10 v11 v12 v13 : Value} {x : DataW H × List MemPlace} (h : DataW.trod enc Try.prog W 0 (fun _ => true) true fuel 38 [v0, v1, v2, v3, v4, v5, v6, v7, v8, v9, v10, v11, v12, v13] = some x) :
    ∃ e : Ev, evL e = [v0, v1, v2, v3, v4, v5, v6, v7, v8, v9, v10, v11, v12, v13] ∧ e.Ok ∧ Rng W W.heap.size e.f.la e.f.ln e.f.rs := by
  have hC3 : Try.prog.cellsOf 3 = 1 := by kernel_rfl
  have hC : Try.prog.cellsOf 33 = 1 := by kernel_rfl
  have hC9 : Try.prog.cellsOf 9 = 1 := by kernel_rfl
  have hC36 : Try.prog.cellsOf 36 = 8 := by kernel_rfl
  obtain ⟨ys, n', -, -, -, hyl, hf⟩ := DataW.trod_struct Try.underlying38 h
  match ys, hyl with
  | [y0, y1, y2, y3, y4, y5, y6], _ =>
    have t0 := hf 0 _ rfl
    have t1 := hf 1 _ rfl
    have t2 := hf 2 _ rfl
    have t3 := hf 3 _ rfl
    have t4 := hf 4 _ rfl
    have t5 := hf 5 _ rfl
    have t6 := hf 6 _ rfl
    simp [hC, hC3, hC9, hC36] at t0 t1 t2 t3 t4 t5 t6
    obtain ⟨k0, e0, -, w0⟩ := DataW.trod_int Try.underlying3 t0
    obtain ⟨k1, e1, -, w1⟩ := DataW.trod_int Try.underlying3 t1
    obtain ⟨k2, e2, -, w2⟩ := DataW.trod_int Try.underlying33 t2
    obtain ⟨k3, e3, -, w3⟩ := DataW.trod_int Try.underlying33 t3
    obtain ⟨k4, e4, -, w4⟩ := DataW.trod_int Try.underlying33 t4
    obtain ⟨k5, e5, -, w5⟩ := DataW.trod_string Try.underlying9 t5
    obtain ⟨f, g0, g1, g2, g3, g4, g5, g6, g7, hok, hr⟩ := frm_of t6
    simp at e0 e1 e2 e3 e4 e5
    subst e0 e1 e2 e3 e4 e5 g0 g1 g2 g3 g4 g5 g6 g7
    exact ⟨⟨k0, k1, k2, k3, k4, k5, f⟩, rfl, ⟨whole_of_wf w0, whole_of_wf w1, word_of_wf w2, word_of_wf w3, word_of_wf w4, by unfold maxLen at w5; simp; omega, hok⟩, hr⟩
theorem evs_of {a : Option Addr} {len cap : Nat} {fuel : Nat} {x : DataW H × List MemPlace}
    (h : DataW.trod enc Try.prog W 0 (fun _ => true) true fuel 22 (Value.slice a len cap).cells.toList = some x) :
    ∃ ev : Nat → Ev, Evs W W.heap.size a len ev ∧ len ≤ 9223372036854775807 := by
  have hC : Try.prog.cellsOf 38 = 14 := by kernel_rfl
  rcases open_slice Try.underlying22 h with ⟨hcs, -⟩ | ⟨A, l, c, m, n, D, Pl, hcs, -, hl, hm, hmm, -, hi⟩
  · simp [Value.cells] at hcs
    obtain ⟨rfl, rfl, rfl⟩ := hcs
    exact ⟨evC, fun k hk => absurd hk (by omega), by omega⟩
  · simp [Value.cells] at hcs
    obtain ⟨rfl, rfl, rfl⟩ := hcs
    have key : ∀ i, ∃ e : Ev, i < len → ∃ b off, A = ⟨b, off, none⟩ ∧ b < W.heap.size ∧ (W.cell? ⟨b, off + i * 14, none⟩ = some (.int .i64 e.k) ∧ W.cell? ⟨b, off + i * 14 + 1, none⟩ = some (.int .i64 e.sp) ∧ W.cell? ⟨b, off + i * 14 + 2, none⟩ = some (.int .u64 e.tm) ∧ W.cell? ⟨b, off + i * 14 + 3, none⟩ = some (.int .u64 e.num) ∧ W.cell? ⟨b, off + i * 14 + 4, none⟩ = some (.int .u64 e.many) ∧ W.cell? ⟨b, off + i * 14 + 5, none⟩ = some (.string e.text) ∧ W.cell? ⟨b, off + i * 14 + 6, none⟩ = some (.int .u64 e.f.k) ∧ W.cell? ⟨b, off + i * 14 + 7, none⟩ = some (.int .u64 e.f.a) ∧ W.cell? ⟨b, off + i * 14 + 8, none⟩ = some (.int .u64 e.f.b) ∧ W.cell? ⟨b, off + i * 14 + 9, none⟩ = some (.int .u64 e.f.c) ∧ W.cell? ⟨b, off + i * 14 + 10, none⟩ = some (.bool e.f.fin) ∧ W.cell? ⟨b, off + i * 14 + 11, none⟩ = some (.string e.f.data) ∧ W.cell? ⟨b, off + i * 14 + 12, none⟩ = some (.string e.f.more) ∧ W.cell? ⟨b, off + i * 14 + 13, none⟩ = some (.slice e.f.la e.f.ln e.f.lc)) ∧ e.Ok ∧ Rng W W.heap.size e.f.la e.f.ln e.f.rs := by
      intro i
      by_cases hil : i < len
      · have him : i < m := by rw [hmm]; simp; omega
        obtain ⟨cs', hcells, ht⟩ := hi i him
        rw [hC] at hcells
        obtain ⟨_, hcl, hat⟩ := World.cells?_some hcells
        match cs', hcl with
        | [v0, v1, v2, v3, v4, v5, v6, v7, v8, v9, v10, v11, v12, v13], _ =>
          obtain ⟨e, he, hok, hr⟩ := ev_of ht
          simp only [evL, List.cons.injEq, and_true] at he
          obtain ⟨g0, g1, g2, g3, g4, g5, g6, g7, g8, g9, g10, g11, g12, g13⟩ := he
          have c0 := hat 0 (by omega)
          have c1 := hat 1 (by omega)
          have c2 := hat 2 (by omega)
          have c3 := hat 3 (by omega)
          have c4 := hat 4 (by omega)
          have c5 := hat 5 (by omega)
          have c6 := hat 6 (by omega)
          have c7 := hat 7 (by omega)
          have c8 := hat 8 (by omega)
          have c9 := hat 9 (by omega)
          have c10 := hat 10 (by omega)
          have c11 := hat 11 (by omega)
          have c12 := hat 12 (by omega)
          have c13 := hat 13 (by omega)
          simp at c0 c1 c2 c3 c4 c5 c6 c7 c8 c9 c10 c11 c12 c13
          obtain ⟨b, off, spot⟩ := A
          have hspot : spot = none := by
            obtain ⟨cs0, hcells0, -⟩ := hi 0 (by omega)
            rw [hC] at hcells0
            obtain ⟨_, hcl0, hat0⟩ := World.cells?_some hcells0
            have c' := hat0 0 (by omega)
            rw [List.getElem?_eq_getElem (by omega)] at c'
            simpa [Addr.add] using World.cell?_spot c'
          subst hspot
          simp only [add_at] at c0 c1 c2 c3 c4 c5 c6 c7 c8 c9 c10 c11 c12 c13
          have hb : b < W.heap.size := World.block_lt_of_cell? _ _ c1
          subst g0 g1 g2 g3 g4 g5 g6 g7 g8 g9 g10 g11 g12 g13
          exact ⟨e, fun _ => ⟨b, off, rfl, hb, ⟨by simpa [add_at] using c0, c1, c2, c3, c4, c5, c6, c7, c8, c9, c10, c11, c12, c13⟩, hok, hr⟩⟩
      · exact ⟨evC 0, fun h => absurd h hil⟩
    refine ⟨fun i => Classical.choose (key i), fun k hk => ?_, by unfold maxLen at hm; omega⟩
    obtain ⟨b, off, e, r⟩ := Classical.choose_spec (key k) hk
    exact ⟨b, off, by rw [e], r⟩
end
end Go.Proofs.Ytiefkpfjmbifcaa

/-
  How an estimate, a slice of pairs and a slice of numbers that come in are read: cell by cell.
-/
import Derived.Test.YtipcfpepdmphcaaL4
import Derived.ProofKit
import Derived.Lib.SmallJoins
import Derived.Deep.Slices
import Derived.Deep.Fields
import Derived.ChangeSame
import Derived.OpenShut
namespace Go.Proofs.Ytipcfpepdmphcaa
open Go.Joins Go.ChangeShapes Go.WideShapes Go.RowKit Go.Deep
theorem word_of_wf {x : Int} (h : (Lit.int .u64 x).wf = true) : Word x := by
  simp [Lit.wf, IntKind.min, IntKind.max, IntKind.signed, IntKind.bits] at h
  exact ⟨by omega, by omega⟩
theorem i64_of_wf {x : Int} (h : (Lit.int .i64 x).wf = true) : x ≤ 9223372036854775807 := by
  simp [Lit.wf, IntKind.min, IntKind.max, IntKind.signed, IntKind.bits] at h
  omega
theorem add_at (b off : Nat) (k : Nat) : (Addr.mk b off none).add k = ⟨b, off + k, none⟩ := by
  unfold Addr.add; split
  · rename_i h; subst h; rfl
  · rfl

section
variable {H : Type} {enc : TypeId × Value → H} {P : Program} {w : World} {base : Nat} {spare : Nat → Bool} {held : Bool}
theorem open_agg5 {r : Reach} {b0 : Nat} {t : TypeId} {f0 f1 f2 f3 f4 : Field} {v : Value} {d : DataW H} {p : List MemPlace} (hs : P.underlying t = some (.struct #[f0, f1, f2, f3, f4])) (hone : oneCellFields P #[f0, f1, f2, f3, f4] = true) (hC : P.cellsOf t = 5)
    (hv : Value.okWide P w r b0 t v) (h : DataW.Trod enc P w base spare held t v d p) :
    ∃ (v0 v1 v2 v3 v4 : Value) (y0 y1 y2 y3 y4 : DataW H × List MemPlace) (n : Nat), v = .agg #[v0, v1, v2, v3, v4] ∧ d = .agg [y0.1, y1.1, y2.1, y3.1, y4.1] ∧ p = y0.2 ++ (y1.2 ++ (y2.2 ++ (y3.2 ++ y4.2))) ∧
      DataW.trod enc P w base spare held n f0.type [v0] = some y0 ∧ DataW.trod enc P w base spare held n f1.type [v1] = some y1 ∧ DataW.trod enc P w base spare held n f2.type [v2] = some y2 ∧ DataW.trod enc P w base spare held n f3.type [v3] = some y3 ∧ DataW.trod enc P w base spare held n f4.type [v4] = some y4 := by
  obtain ⟨cs, rfl, hsz⟩ := okWide_struct hs hv
  obtain ⟨l⟩ := cs
  match l, hsz.trans hC with
  | [c0, c1, c2, c3, c4], _ =>
    obtain ⟨fuel, hf⟩ := h
    obtain ⟨xs, n, _, hx, _, hlen, hg⟩ := DataW.trod_struct hs hf
    obtain ⟨o0, k0⟩ := hone_of hone 0 f0 rfl
    obtain ⟨o1, k1⟩ := hone_of hone 1 f1 rfl
    obtain ⟨o2, k2⟩ := hone_of hone 2 f2 rfl
    obtain ⟨o3, k3⟩ := hone_of hone 3 f3 rfl
    obtain ⟨o4, k4⟩ := hone_of hone 4 f4 rfl
    match xs, hlen with
    | [y0, y1, y2, y3, y4], _ =>
      simp only [Prod.mk.injEq] at hx
      exact ⟨c0, c1, c2, c3, c4, y0, y1, y2, y3, y4, n, rfl, by simpa using hx.1, by simpa using hx.2, by simpa [Value.cells, o0, k0] using hg 0 f0 rfl, by simpa [Value.cells, o1, k1] using hg 1 f1 rfl, by simpa [Value.cells, o2, k2] using hg 2 f2 rfl, by simpa [Value.cells, o3, k3] using hg 3 f3 rfl, by simpa [Value.cells, o4, k4] using hg 4 f4 rfl⟩

end

section
variable {H : Type} {enc : TypeId × Value → H} {W : World}
theorem prs_of {a : Option Addr} {len cap : Nat} {fuel : Nat} {x : DataW H × List MemPlace}
    (h : DataW.trod enc Try.prog W 0 (fun _ => true) true fuel 34 (Value.slice a len cap).cells.toList = some x) :
    ∃ d : Nat → Int × Int, Prs W W.heap.size a len d ∧ len ≤ 9223372036854775807 := by
  have hC : Try.prog.cellsOf 36 = 2 := by kernel_rfl
  have hC1 : Try.prog.cellsOf 22 = 1 := by kernel_rfl
  rcases open_slice Try.underlying34 h with ⟨hcs, -⟩ | ⟨A, l, c, m, n, D, Pl, hcs, -, hl, hm, hmm, -, hi⟩
  · simp [Value.cells] at hcs
    obtain ⟨rfl, rfl, rfl⟩ := hcs
    exact ⟨fun _ => (0, 0), fun k hk => absurd hk (by omega), by omega⟩
  · simp [Value.cells] at hcs
    obtain ⟨rfl, rfl, rfl⟩ := hcs
    have hmc : m = cap := by simpa using hmm
    subst hmc
    have key : ∀ i, ∃ d : Int × Int, i < len → ∃ b off, A = ⟨b, off, none⟩ ∧ b < W.heap.size ∧ W.cell? ⟨b, off + i * 2, none⟩ = some (.int .u64 d.1) ∧ W.cell? ⟨b, off + i * 2 + 1, none⟩ = some (.int .u64 d.2) ∧ Word d.1 ∧ Word d.2 := by
      intro i
      by_cases hil : i < len
      · obtain ⟨cs', hcells, ht⟩ := hi i (by omega)
        rw [hC] at hcells
        obtain ⟨_, hcl, hat⟩ := World.cells?_some hcells
        obtain ⟨xs, m', -, -, -, hlen, hel⟩ := DataW.trod_array Try.underlying36 ht
        rw [hC1] at hel
        have c0 := hat 0 (by omega)
        have c1 := hat 1 (by omega)
        match cs', hcl with
        | [v0, v1], _ =>
          have t0 := hel 0 (by omega)
          have t1 := hel 1 (by omega)
          simp at t0 t1 c0 c1
          rw [List.getElem?_eq_getElem (by omega)] at t0 t1
          obtain ⟨k0, e0, -, w0⟩ := DataW.trod_int Try.underlying22 t0
          obtain ⟨k1, e1, -, w1⟩ := DataW.trod_int Try.underlying22 t1
          simp at e0 e1
          subst e0 e1
          obtain ⟨b, off, spot⟩ := A
          have hspot : spot = none := by
            obtain ⟨cs0, hcells0, -⟩ := hi 0 (by omega)
            rw [hC] at hcells0
            obtain ⟨_, hcl0, hat0⟩ := World.cells?_some hcells0
            have c' := hat0 0 (by omega)
            rw [List.getElem?_eq_getElem (by omega)] at c'
            simpa [Addr.add] using World.cell?_spot c'
          subst hspot
          rw [add_at] at c0 c1
          rw [add_at] at c1
          have hb : b < W.heap.size := World.block_lt_of_cell? _ _ c1
          exact ⟨(k0, k1), fun _ => ⟨b, off, rfl, hb, by simpa [add_at] using c0, c1, word_of_wf w0, word_of_wf w1⟩⟩
      · exact ⟨(0, 0), fun h => absurd h hil⟩
    refine ⟨fun i => Classical.choose (key i), fun k hk => ?_, by unfold maxLen at hm; omega⟩
    obtain ⟨b, off, e, r⟩ := Classical.choose_spec (key k) hk
    exact ⟨b, off, by rw [e], r⟩
end
end Go.Proofs.Ytipcfpepdmphcaa

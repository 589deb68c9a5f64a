/-
  How the slices of deeds and of numbers that come in are read: cell by cell.
-/
import Derived.Test.YtiddiiiffjibfaaL5
import Derived.Test.YtiddiiiffjibfaaL3
import Derived.ProofKit
import Derived.Deep.Slices
import Derived.Deep.Fields
import Derived.ChangeSame
namespace Go.Proofs.Ytiddiiiffjibfaa
open Go.RowKit Go.ChangeShapes Go.WideShapes Go.Deep

theorem word_of_wf {x : Int} (h : (Lit.int .u64 x).wf = true) : Word x := by
  simp [Lit.wf, IntKind.min, IntKind.max, IntKind.signed, IntKind.bits] at h
  exact ⟨by omega, by omega⟩

section
variable {H : Type} {enc : TypeId × Value → H} {P : Program} {w : World} {base : Nat} {spare : Nat → Bool} {held : Bool}
theorem open_slice_fields {t e : TypeId} {fs : Array Field} {fuel : Nat} {cs : List Value} {x : DataW H × List MemPlace} (ht : P.underlying t = some (.slice e)) (he : P.underlying e = some (.struct fs))
    (hone : oneCellFields P fs = true) (hC : P.cellsOf e = fs.size) (h : DataW.trod enc P w base spare held fuel t cs = some x) :
    (cs = [.slice none 0 0] ∧ x = (.nil, [])) ∨
    ∃ (a : Addr) (len cap m : Nat) (D : Nat → DataW H) (Pl : Nat → List MemPlace), cs = [.slice (some a) len cap] ∧ base ≤ a.block ∧ len ≤ cap ∧ cap ≤ maxLen ∧ m = (if spare a.block then cap else len) ∧
      x = (.slice ((List.range len).map D) ((List.range (m - len)).map fun j => D (len + j)), MemPlace.row a (m * fs.size) ++ (List.range m).flatMap Pl) ∧
      ∀ i, i < m → ∃ (ys : List (DataW H × List MemPlace)) (n : Nat), D i = .agg (ys.map (·.1)) ∧ Pl i = ys.flatMap (·.2) ∧ ys.length = fs.size ∧
        ∀ (j : Nat) (f : Field), fs[j]? = some f → ∃ (v : Value) (y : DataW H × List MemPlace), w.cell? (a.add (i * fs.size + j)) = some v ∧ ys[j]? = some y ∧ DataW.trod enc P w base spare held n f.type [v] = some y := by
  rcases open_slice ht h with h0 | ⟨a, len, cap, m, n, D, Pl, hcs, hb, hl, hm, hmm, hx, hi⟩
  · exact .inl h0
  · refine .inr ⟨a, len, cap, m, D, Pl, hcs, hb, hl, hm, hmm, by rw [hC] at hx; exact hx, fun i him => ?_⟩
    obtain ⟨cs', hc, ht'⟩ := hi i him
    rw [hC] at hc
    obtain ⟨ys, n', hn', hy, hlen, hyl, hf⟩ := DataW.trod_struct he ht'
    obtain ⟨_, hcl, hat⟩ := World.cells?_some hc
    simp only [Prod.mk.injEq] at hy
    refine ⟨ys, n', hy.1, hy.2, hyl, fun j f hj => ?_⟩
    obtain ⟨ho, hk⟩ := hone_of hone j f hj
    have hjl : j < fs.size := (Array.getElem?_eq_some_iff.1 hj).1
    have hcell := hat j hjl
    have hv : cs'[j]? = some (cs'[j]'(by omega)) := List.getElem?_eq_getElem (by omega)
    have h1 := hf j f hj
    rw [ho, hk] at h1
    have hone' : (cs'.drop j).take 1 = [cs'[j]'(by omega)] := by
      rw [List.drop_eq_getElem_cons (by omega)]
      rfl
    rw [hone'] at h1
    have hys : ys[j]? = some (ys[j]'(by omega)) := List.getElem?_eq_getElem (by omega)
    refine ⟨_, _, ?_, hys, h1.trans hys⟩
    rw [← Go.Deep.add_add, hcell, hv]
end

theorem add_at (b off : Nat) (k : Nat) : (Addr.mk b off none).add k = ⟨b, off + k, none⟩ := by
  unfold Addr.add; split
  · rename_i h; subst h; rfl
  · rfl

section
variable {H : Type} {enc : TypeId × Value → H} {W : World}
theorem acts_of {a : Option Addr} {len cap : Nat} {fuel : Nat} {x : DataW H × List MemPlace}
    (h : DataW.trod enc Try.prog W 0 (fun _ => true) true fuel 33 (Value.slice a len cap).cells.toList = some x) :
    ∃ d : Nat → Deed, Acts W W.heap.size a len d ∧ len ≤ 9223372036854775807 := by
  rcases open_slice_fields Try.underlying33 Try.underlying36 (by kernel_rfl) (by kernel_rfl) h with ⟨hcs, -⟩ | ⟨A, l, c, m, D, Pl, hcs, -, hl, hm, hmm, -, hi⟩
  · simp [Value.cells] at hcs
    obtain ⟨rfl, rfl, rfl⟩ := hcs
    exact ⟨fun _ => ⟨0, 0, 0, 0⟩, fun k hk => absurd hk (by omega), by omega⟩
  · simp [Value.cells] at hcs
    obtain ⟨rfl, rfl, rfl⟩ := hcs
    have hmc : m = cap := by simpa using hmm
    subst hmc
    have key : ∀ i, ∃ d : Deed, i < len → ∃ b off, A = ⟨b, off, none⟩ ∧ b < W.heap.size ∧ (W.cell? ⟨b, off + i * 4, none⟩ = some (.int .i64 d.k) ∧ W.cell? ⟨b, off + i * 4 + 1, none⟩ = some (.int .u64 d.n) ∧
        W.cell? ⟨b, off + i * 4 + 2, none⟩ = some (.int .u64 d.t) ∧ W.cell? ⟨b, off + i * 4 + 3, none⟩ = some (.int .u64 d.now)) ∧ d.Ok := by
      intro i
      by_cases hil : i < len
      · obtain ⟨ys, n, -, -, -, hf⟩ := hi i (by omega)
        obtain ⟨v0, y0, c0, -, t0⟩ := hf 0 _ rfl
        obtain ⟨v1, y1, c1, -, t1⟩ := hf 1 _ rfl
        obtain ⟨v2, y2, c2, -, t2⟩ := hf 2 _ rfl
        obtain ⟨v3, y3, c3, -, t3⟩ := hf 3 _ rfl
        obtain ⟨k0, e0, -, -⟩ := DataW.trod_int Try.underlying3 t0
        obtain ⟨k1, e1, -, w1⟩ := DataW.trod_int Try.underlying22 t1
        obtain ⟨k2, e2, -, w2⟩ := DataW.trod_int Try.underlying22 t2
        obtain ⟨k3, e3, -, w3⟩ := DataW.trod_int Try.underlying22 t3
        simp at e0 e1 e2 e3
        subst e0 e1 e2 e3
        obtain ⟨b, off, spot⟩ := A
        have hspot : spot = none := by
          obtain ⟨ys', n', -, -, -, hf'⟩ := hi 0 (by omega)
          obtain ⟨v', y', c', -, -⟩ := hf' 0 _ rfl
          simpa [Addr.add] using World.cell?_spot c'
        subst hspot
        rw [add_at] at c0 c1 c2 c3
        have hb : b < W.heap.size := World.block_lt_of_cell? _ _ c0
        exact ⟨⟨k0, k1, k2, k3⟩, fun _ => ⟨b, off, rfl, hb, ⟨c0, c1, c2, c3⟩, word_of_wf w1, word_of_wf w2, word_of_wf w3⟩⟩
      · exact ⟨⟨0, 0, 0, 0⟩, fun h => absurd h hil⟩
    refine ⟨fun i => Classical.choose (key i), fun k hk => ?_, by unfold maxLen at hm; omega⟩
    obtain ⟨b, off, e, r⟩ := Classical.choose_spec (key k) hk
    exact ⟨b, off, by rw [e], r⟩

theorem nums_of {a : Option Addr} {len cap : Nat} {fuel : Nat} {t e : TypeId} {K : IntKind} {x : DataW H × List MemPlace} (ht : Try.prog.underlying t = some (.slice e)) (he : Try.prog.underlying e = some (.int K)) (hc : Try.prog.cellsOf e = 1)
    (h : DataW.trod enc Try.prog W 0 (fun _ => true) true fuel t (Value.slice a len cap).cells.toList = some x) :
    ∃ z : Nat → Int, Nums K W W.heap.size a len z ∧ (∀ k, k < len → (Lit.int K (z k)).wf = true) ∧ len ≤ 9223372036854775807 := by
  rcases open_ints ht he hc h with ⟨hcs, -⟩ | ⟨A, l, c, zs, hcs, -, hl, hm, hz, -, hcell, hwz⟩
  · simp [Value.cells] at hcs
    obtain ⟨rfl, rfl, rfl⟩ := hcs
    exact ⟨fun _ => 0, fun k hk => absurd hk (by omega), fun k hk => absurd hk (by omega), by omega⟩
  · simp [Value.cells] at hcs
    obtain ⟨rfl, rfl, rfl⟩ := hcs
    have hz' : zs.length = cap := by simpa using hz
    refine ⟨fun k => zs.getD k 0, fun k hk => ?_, fun k hk => hwz _ ?_, by unfold maxLen at hm; omega⟩
    · have c0 := hcell k (by omega)
      obtain ⟨b, off, spot⟩ := A
      have hspot : spot = none := by
        have c' := hcell 0 (by omega)
        simpa [Addr.add] using World.cell?_spot c'
      subst hspot
      rw [add_at] at c0
      exact ⟨b, off, rfl, World.block_lt_of_cell? _ _ c0, c0⟩
    · show zs.getD k 0 ∈ zs
      rw [List.getD_eq_getElem?_getD, List.getElem?_eq_getElem (by omega)]
      simp
end
end Go.Proofs.Ytiddiiiffjibfaa

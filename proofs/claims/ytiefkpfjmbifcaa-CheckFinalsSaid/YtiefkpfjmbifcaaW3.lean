/-
  The limit of a stream: the walk.
-/
import Derived.Test.YtiefkpfjmbifcaaW2
import Derived.Deep.RegionWith
import Derived.Deep.RegionHeld3
import Derived.Deep.DeepCutAuto
namespace Go.Proofs.Ytiefkpfjmbifcaa
open Go.RowKit Go.Maps

def limK (s : St) (id : Int) : Nat := if (bits BinOp.and IntKind.u64 id 2 != 0) = true then 7 else if (bits BinOp.and IntKind.u64 id 1 == s.side) = true then 6 else 5
def limitF (s : St) (id : Int) : Int := mx (s.lim (limK s id)) (s.strm id).wide
/-- A step that tells r and, maybe, makes streams that were told nothing of. -/
def Told (M : Mem) (n : Nat) (s : St) (v : Value) (w : World) (r : Ending) (w' : World) : Prop :=
  r = .returned v ∧ ∃ g', CK w' { M with g := g' } n s ∧ Kept M w w' ∧ Grew w M { M with g := g' }
set_option maxRecDepth 100000 in
set_option maxHeartbeats 4000000 in
theorem limit_any {w : World} {M : Mem} {n : Nat} {s : St} (h : CK w M n s) {id : Int} (hid : Word id) (hn : n < maxLen) :
    Calls Try.prog 30 #[.pointer (some ⟨M.B, 0, none⟩), .int .u64 id] w (Told M (n + 1) s (.int .u64 (limitF s id)) w) := by
  have hh := Lib.hid h
  obtain ⟨k0, -, -, -, -, -, -, -, -, -, -, -, -, ⟨-, -, -, -, -, k18, k19, k20, -, -⟩, -, k24⟩ := h.cells
  have hB : M.B < w.heap.size := World.block_lt_of_cell? _ _ k24
  have hB1 : M.B ≠ w.heap.size := by omega
  have hid0 : 0 ≤ id := hid.1
  have hof := Lib.hid (of_any h.drew hid hn)
  have hk : ((bits BinOp.and IntKind.u64 id 2 != 0) = true ∧ limK s id = 7) ∨ ((bits BinOp.and IntKind.u64 id 2 != 0) = false ∧ (bits BinOp.and IntKind.u64 id 1 == s.side) = true ∧ limK s id = 6) ∨ ((bits BinOp.and IntKind.u64 id 2 != 0) = false ∧ (bits BinOp.and IntKind.u64 id 1 == s.side) = false ∧ limK s id = 5) := by
    unfold limK
    cases (bits BinOp.and IntKind.u64 id 2 != 0) <;> cases (bits BinOp.and IntKind.u64 id 1 == s.side) <;> simp
  clear h hid hn
  have hmx : ∀ (w : World) (ts : Array TypeId) (t : TypeId) (x y : Int), (Builtin.max_ ts t #[.int .u64 x, .int .u64 y]).run Try.prog w = .ok (.int .u64 (mx x y)) w := fun w ts t x y => by rw [run_max_int2]; rfl
  have hL : Hid (limitF s id = mx (s.lim (limK s id)) (s.strm id).wide) := rfl
  rcases hk with ⟨b2, hk⟩ | ⟨b2, b1, hk⟩ | ⟨b2, b1, hk⟩
  all_goals
    have hL2 := hL.out
    rw [hk] at hL2
    rw [hL2]
    clear hL hL2 hk
    go_enter Try.func30, Try.ntmps30
    go_wp2_with fail
    go_region_with (first | (go_at_call 23; refine hof.out.mono ?_; rintro r w' ⟨p, g', rfl, hg, hc, hkept, hgrew⟩; have hP := Lib.hid (And.intro hc (And.intro hkept hgrew)); obtain ⟨⟨q0, -⟩, -⟩ := (hc.strm id).1 p hg; obtain ⟨-, -, -, -, -, -, -, -, -, -, -, -, -, ⟨-, -, -, -, -, c18, c19, c20, -, -⟩, -, -⟩ := hc.cells; clear hc hkept hgrew))
    all_goals
      (try go_wp2_with fail)
      go_ret
      exact ⟨rfl, g', hP.out.1, hP.out.2.1.undrew, hP.out.2.2.undrew⟩
end Go.Proofs.Ytiefkpfjmbifcaa

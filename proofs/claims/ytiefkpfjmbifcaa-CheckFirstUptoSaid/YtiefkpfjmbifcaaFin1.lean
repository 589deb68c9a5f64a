/-
  CheckFirst answers true: the parts, joined; and what the bound says of a list's length.
-/
import Derived.Test.YtiefkpfjmbifcaaRows
import Derived.Test.YtiefkpfjmbifcaaF2
import Derived.Test.YtiefkpfjmbifcaaNu2
import Derived.Deep.Slices
namespace Go.Proofs.Ytiefkpfjmbifcaa
open Go.RowKit Go.Deep
theorem bulk_one {H : Type} (d : DataW H) : 1 ≤ Rows.uptoBulk d := by
  cases d with
  | lit l => cases l <;> simp [Rows.uptoBulk]
  | nil => simp [Rows.uptoBulk]
  | ptr d => simp [Rows.uptoBulk]
  | slice elems spare => simp [Rows.uptoBulk]
  | agg parts => simp [Rows.uptoBulk]
  | iface t d => simp [Rows.uptoBulk]
  | map entries => simp [Rows.uptoBulk]
  | held h => simp [Rows.uptoBulk]
theorem bulk_length {H : Type} (l : List (DataW H)) : l.length ≤ Rows.uptoBulkAll l := by
  induction l with
  | nil => simp [Rows.uptoBulkAll]
  | cons x r ih => have := bulk_one x; simp only [Rows.uptoBulkAll, List.length_cons]; omega
theorem evs_bulk {H : Type} {enc : TypeId × Value → H} {W : World} {a : Option Addr} {len cap : Nat} {fuel : Nat} {x : DataW H × List MemPlace}
    (h : DataW.trod enc Try.prog W 0 (fun _ => true) true fuel 22 (Value.slice a len cap).cells.toList = some x) : len ≤ cap ∧ (a = none → len = 0 ∧ cap = 0) ∧ len ≤ Rows.uptoBulk x.1 := by
  rcases open_slice Try.underlying22 h with ⟨hcs, -⟩ | ⟨A, l, c, m, n, D, Pl, hcs, -, hl, -, -, hx, -⟩
  · simp [Value.cells] at hcs
    obtain ⟨rfl, rfl, rfl⟩ := hcs
    exact ⟨Nat.le_refl _, fun _ => ⟨rfl, rfl⟩, Nat.zero_le _⟩
  · simp [Value.cells] at hcs
    obtain ⟨rfl, rfl, rfl⟩ := hcs
    refine ⟨hl, (fun e => by cases e), ?_⟩
    rw [hx]
    have := bulk_length ((List.range len).map D)
    simp only [List.length_map, List.length_range] at this
    simp only [Rows.uptoBulk]
    omega
theorem bulk_three {H : Type} {d0 d1 d2 : DataW H} (hk : Rows.uptoSmall H [d0, d1, d2] = true) : Rows.uptoBulk d1 ≤ 1048576 ∧ Rows.uptoBulk d2 ≤ 1048576 := by
  have h : Rows.uptoBulkAll [d0, d1, d2] ≤ 1048576 := of_decide_eq_true hk
  simp only [Rows.uptoBulkAll] at h
  omega
theorem first_fin (side : Int) (A : Option Addr) (ln lc : Nat) (ev : Nat → Ev) (A' : Option Addr) (ln' lc' : Nat) (ev' : Nat → Ev) (w : World) (hx : Evs w w.heap.size A ln ev) (hx' : Evs w w.heap.size A' ln' ev') (hcap : ln ≤ lc) (h0 : A = none → ln = 0 ∧ lc = 0) (h0' : A' = none → ln' = 0 ∧ lc' = 0) (hs : ln ≤ 1048576) (hs' : ln' ≤ 1048576) :
    Calls Try.prog 3 #[.int .i64 side, .slice A ln lc, .slice A' ln' lc'] w fun r w' => r = .returned (.bool true) ∧ Below w.heap.size w w' :=
  (first_any nums_ok (fun w => awake_any nums_ok w) side A ln lc ev A' ln' lc' ev' w hx hx' hcap h0 h0' hs hs').mono fun _ _ h => h
end Go.Proofs.Ytiefkpfjmbifcaa

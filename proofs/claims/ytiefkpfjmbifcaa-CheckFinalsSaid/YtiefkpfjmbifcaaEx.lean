/-
  The traces whose answers are fixed, in plain Lean.
-/
import Derived.Test.YtiefkpfjmbifcaaL6
import Derived.ArgAppend
namespace Go.Proofs.Ytiefkpfjmbifcaa
open Go.RowKit Go.Maps
def fz (k : Int) : Frm := ⟨k, 0, 0, 0, false, ⟨#[]⟩, ⟨#[]⟩, none, 0, 0, fun _ => (0, 0)⟩
def evA : Nat → Ev
  | 0 => ⟨3, 0, 5, 5, 0, ⟨#[]⟩, fz 0⟩
  | 1 => ⟨5, 0, 5, 0, 1, ⟨#[]⟩, fz 0⟩
  | _ => ⟨4, 0, 5, 0, 0, ⟨#[]⟩, fz 0⟩
def evB : Nat → Ev
  | 0 => ⟨3, 0, 5, 5, 0, ⟨#[]⟩, fz 0⟩
  | 1 => ⟨5, 0, 5, 0, 1, ⟨#[]⟩, fz 0⟩
  | 2 => ⟨8, 0, 5, 0, 0, ⟨#[]⟩, fz 1⟩
  | 3 => ⟨4, 0, 5, 0, 0, ⟨#[]⟩, fz 0⟩
  | 4 => ⟨12, 0, 5, 0, 0, ⟨#[]⟩, fz 0⟩
  | _ => ⟨11, 0, 5, 0, 0, ⟨#[]⟩, fz 0⟩
def evC : Nat → Ev
  | _ => ⟨3, 0, 5, 6, 0, ⟨#[]⟩, fz 0⟩
theorem evA_is (N : ByteArray → Nat → Int) : badF N 0 evA 0 = 0 ∧ badF N 0 evA 1 = 0 ∧ badF N 0 evA 2 = 2 := by
  refine ⟨?_, ?_, ?_⟩
  · simp [badF, runF, startF, brokenF, timedF, goesF, comesF, standsF, evA]
  · simp [badF, runF, startF, brokenF, timedF, goesF, comesF, standsF, evA, learnF]
  · simp [badF, runF, startF, brokenF, timedF, goesF, evA, learnF, nextF]
theorem w1m : IntKind.u64.wrap 0 = 0 := by decide
theorem evB_is (N : ByteArray → Nat → Int) : ∀ j, j < 6 → ¬ 0 < badF N 0 evB j := by
  intro j hj
  rcases (show j = 0 ∨ j = 1 ∨ j = 2 ∨ j = 3 ∨ j = 4 ∨ j = 5 from by omega) with rfl | rfl | rfl | rfl | rfl | rfl
  · simp [badF, runF, startF, brokenF, timedF, goesF, comesF, standsF, evB]
  · simp [badF, runF, startF, brokenF, timedF, goesF, comesF, standsF, evB, learnF]
  · simp [badF, runF, startF, brokenF, timedF, goesF, comesF, standsF, evB, learnF, nextF, frameF, firstK, fz]
  · simp [badF, runF, startF, brokenF, timedF, goesF, comesF, standsF, evB, learnF, nextF, fz, toldF, leftF, askF, quietK, w1m]
  · simp [badF, runF, startF, brokenF, timedF, goesF, comesF, standsF, evB, learnF, nextF, fz, toldF, leftF, askF, quietK, w1m]
  · simp [badF, runF, startF, brokenF, timedF, goesF, comesF, standsF, evB, learnF, nextF, fz, toldF, leftF, askF, quietK, w1m, setB]
theorem evC_is (N : ByteArray → Nat → Int) : badF N 0 evC 0 = 1 := by
  simp [badF, runF, startF, brokenF, timedF, evC]
theorem vA {N : ByteArray → Nat → Int} {ok : Bool} {rule at_ : Int} (h : Verd N 0 evA 3 ok rule at_) : ok = false ∧ rule = 2 ∧ at_ = 2 := by
  obtain ⟨e0, e1, e2⟩ := evA_is N
  rcases h with ⟨-, -, -, h⟩ | ⟨j, hj, h1, h2, h3, h4, h5⟩
  · have := h 2 (by omega); omega
  · rcases (show j = 0 ∨ j = 1 ∨ j = 2 from by omega) with rfl | rfl | rfl
    · omega
    · omega
    · exact ⟨h1, by omega, by omega⟩
theorem vB {N : ByteArray → Nat → Int} {ok : Bool} {rule at_ : Int} (h : Verd N 0 evB 6 ok rule at_) : ok = true ∧ rule = 0 ∧ at_ = 0 := by
  rcases h with ⟨h1, h2, h3, -⟩ | ⟨j, hj, -, -, -, h4, -⟩
  · exact ⟨h1, h2, h3⟩
  · exact absurd h4 (evB_is N j hj)
theorem vC {N : ByteArray → Nat → Int} {ok : Bool} {rule at_ : Int} (h : Verd N 0 evC 1 ok rule at_) : ok = false ∧ rule = 1 ∧ at_ = 0 := by
  have e := evC_is N
  rcases h with ⟨-, -, -, h⟩ | ⟨j, hj, h1, h2, h3, h4, h5⟩
  · have := h 0 (by omega); omega
  · obtain rfl : j = 0 := by omega
    exact ⟨h1, by omega, by omega⟩
theorem vD {N : ByteArray → Nat → Int} {ev : Nat → Ev} {ok : Bool} {rule at_ : Int} (h : Verd N 1 ev 0 ok rule at_) : ok = true ∧ rule = 0 ∧ at_ = 0 := by
  rcases h with ⟨h1, h2, h3, -⟩ | ⟨j, hj, -⟩
  · exact ⟨h1, h2, h3⟩
  · omega
def evL (e : Ev) : List Value := [.int .i64 e.k, .int .i64 e.sp, .int .u64 e.tm, .int .u64 e.num, .int .u64 e.many, .string e.text, .int .u64 e.f.k, .int .u64 e.f.a, .int .u64 e.f.b, .int .u64 e.f.c, .bool e.f.fin, .string e.f.data, .string e.f.more, .slice e.f.la e.f.ln e.f.lc]
theorem evs_row {w : World} {b : Nat} {cur : Array Value} {t : TypeId} {n : Nat} {ev : Nat → Ev} (hb : w.heap[b]? = some (.cells cur t (0, 0))) (hL : ∀ k, k < n → ∀ i, i < 14 → cur[k * 14 + i]? = (evL (ev k))[i]?) (hok : ∀ k, (ev k).Ok) (hln : ∀ k, (ev k).f.ln = 0) :
    Evs w w.heap.size (some ⟨b, 0, none⟩) n ev := fun k hk => by
  have hc : ∀ j, w.cell? ⟨b, j, none⟩ = cur[j]? := fun j => cell_of_row w b j cur t (0, 0) hb
  refine ⟨b, 0, rfl, (Array.getElem?_eq_some_iff.1 hb).1, ⟨?_, ?_, ?_, ?_, ?_, ?_, ?_, ?_, ?_, ?_, ?_, ?_, ?_, ?_⟩, hok k, fun i hi => by rw [hln k] at hi; omega⟩
  · have := hL k hk 0 (by omega); rw [hc, Nat.zero_add]; exact this
  · have := hL k hk 1 (by omega); rw [hc, Nat.zero_add]; exact this
  · have := hL k hk 2 (by omega); rw [hc, Nat.zero_add]; exact this
  · have := hL k hk 3 (by omega); rw [hc, Nat.zero_add]; exact this
  · have := hL k hk 4 (by omega); rw [hc, Nat.zero_add]; exact this
  · have := hL k hk 5 (by omega); rw [hc, Nat.zero_add]; exact this
  · have := hL k hk 6 (by omega); rw [hc, Nat.zero_add]; exact this
  · have := hL k hk 7 (by omega); rw [hc, Nat.zero_add]; exact this
  · have := hL k hk 8 (by omega); rw [hc, Nat.zero_add]; exact this
  · have := hL k hk 9 (by omega); rw [hc, Nat.zero_add]; exact this
  · have := hL k hk 10 (by omega); rw [hc, Nat.zero_add]; exact this
  · have := hL k hk 11 (by omega); rw [hc, Nat.zero_add]; exact this
  · have := hL k hk 12 (by omega); rw [hc, Nat.zero_add]; exact this
  · have := hL k hk 13 (by omega); rw [hc, Nat.zero_add]; exact this
theorem fz_ok (k : Int) (hk : Word k) : (fz k).Ok := ⟨hk, ⟨Int.le_refl 0, by show (0 : Int) < 18446744073709551616; omega⟩, ⟨Int.le_refl 0, by show (0 : Int) < 18446744073709551616; omega⟩, ⟨Int.le_refl 0, by show (0 : Int) < 18446744073709551616; omega⟩, by show (0 : Nat) ≤ _; omega, by show (0 : Nat) ≤ _; omega⟩
theorem wl {x : Int} (h : 0 ≤ x ∧ x < 100) : Word x := ⟨h.1, by omega⟩
theorem hl {x : Int} (h : 0 ≤ x ∧ x < 100) : Whole x := ⟨by omega, by omega⟩
theorem ev_ok {k tm num many fk : Int} (hk : 0 ≤ k ∧ k < 100) (ht : 0 ≤ tm ∧ tm < 100) (hn : 0 ≤ num ∧ num < 100) (hm : 0 ≤ many ∧ many < 100) (hf : 0 ≤ fk ∧ fk < 100) : Ev.Ok ⟨k, 0, tm, num, many, ⟨#[]⟩, fz fk⟩ :=
  ⟨hl hk, hl (x := 0) (by omega), wl ht, wl hn, wl hm, by show (0 : Nat) ≤ _; omega, fz_ok fk (wl hf)⟩
theorem okA : ∀ k, (evA k).Ok := fun k => by
  match k with
  | 0 => exact ev_ok (by omega) (by omega) (by omega) (by omega) (by omega)
  | 1 => exact ev_ok (by omega) (by omega) (by omega) (by omega) (by omega)
  | k + 2 => exact ev_ok (by omega) (by omega) (by omega) (by omega) (by omega)
theorem okB : ∀ k, (evB k).Ok := fun k => by
  match k with
  | 0 => exact ev_ok (by omega) (by omega) (by omega) (by omega) (by omega)
  | 1 => exact ev_ok (by omega) (by omega) (by omega) (by omega) (by omega)
  | 2 => exact ev_ok (by omega) (by omega) (by omega) (by omega) (by omega)
  | 3 => exact ev_ok (by omega) (by omega) (by omega) (by omega) (by omega)
  | 4 => exact ev_ok (by omega) (by omega) (by omega) (by omega) (by omega)
  | k + 5 => exact ev_ok (by omega) (by omega) (by omega) (by omega) (by omega)
theorem okC : ∀ k, (evC k).Ok := fun k => ev_ok (by omega) (by omega) (by omega) (by omega) (by omega)
theorem lnA : ∀ k, (evA k).f.ln = 0 := fun k => by match k with | 0 => rfl | 1 => rfl | k + 2 => rfl
theorem lnB : ∀ k, (evB k).f.ln = 0 := fun k => by match k with | 0 => rfl | 1 => rfl | 2 => rfl | 3 => rfl | 4 => rfl | k + 5 => rfl
theorem lnC : ∀ k, (evC k).f.ln = 0 := fun _ => rfl
def rowOf (ev : Nat → Ev) : Nat → List Value
  | 0 => []
  | n + 1 => rowOf ev n ++ evL (ev n)
theorem row_len (ev : Nat → Ev) : ∀ n, (rowOf ev n).length = n * 14
  | 0 => rfl
  | n + 1 => by rw [rowOf, List.length_append, row_len ev n]; show n * 14 + 14 = _; omega
theorem row_at (ev : Nat → Ev) : ∀ n k, k < n → ∀ i, i < 14 → (rowOf ev n)[k * 14 + i]? = (evL (ev k))[i]?
  | 0, k, hk, _, _ => by omega
  | n + 1, k, hk, i, hi => by
    have hl := row_len ev n
    by_cases e : k = n
    · subst e
      rw [rowOf, List.getElem?_append_right (by omega), hl]
      congr 1
      omega
    · rw [rowOf, List.getElem?_append_left (by omega)]
      exact row_at ev n k (by omega) i hi
end Go.Proofs.Ytiefkpfjmbifcaa

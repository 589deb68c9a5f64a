/-
  Whether the rule 13 holds: the walk.
-/
import Derived.Test.YtiefkpfjmbifcaaW3
namespace Go.Proofs.Ytiefkpfjmbifcaa
open Go.RowKit Go.Maps

def movesF (s : St) (e : Ev) : Bool := e.many == IntKind.u64.wrap e.text.size && decide (IntKind.u64.wrap ((s.strm e.num).moved + e.many) ≤ (s.strm e.num).came)
/-- What is known behind a step, from the world ahead of it. -/
theorem known {M M' : Mem} {n : Nat} {s : St} {w w1 w' : World} (hb : Below w.heap.size w w1) (h : CK w' M' n s ∧ Kept M w1 w' ∧ Grew w1 M M') : CK w' M' n s ∧ Kept M w w' ∧ Grew w M M' :=
  ⟨h.1, (Kept.below hb).trans1 h.2.1, (Grew.refl w M).trans hb.size h.2.2⟩
theorem known_drew {M M' : Mem} {n : Nat} {s : St} {w w' : World} (h : CK w' M' n s ∧ Kept M w w' ∧ Grew w M M') : CK w'.drew M' n s ∧ Kept M w w'.drew ∧ Grew w M M' :=
  ⟨h.1.drew, ⟨h.2.1.1.drew, h.2.1.2⟩, h.2.2⟩
set_option maxRecDepth 100000 in
set_option maxHeartbeats 4000000 in
theorem moves_any {w : World} {M : Mem} {n : Nat} {s : St} (h : CK w M n s) (e : Ev) (he : e.Ok) (hn : n < maxLen) :
    Calls Try.prog 19 #[.pointer (some ⟨M.B, 0, none⟩), evV e] w (Told M (n + 1) s (.bool (movesF s e)) w) := by
  have hh := Lib.hid h
  have hnum := he.num
  clear h he
  unfold evV movesF
  rcases (show e.many = IntKind.u64.wrap e.text.size ∨ ¬ e.many = IntKind.u64.wrap e.text.size from by omega) with g | g
  · have g3 := btt g
    go_enter Try.func19, Try.ntmps19
    go_wp2_with (go_at_call 23; refine (of_any (hh.out.alloc _) hnum hn).mono ?_; rintro r w' ⟨p, g', rfl, hg, hc, hkept, hgrew⟩; have hP := Lib.hid (And.intro hc (And.intro hkept hgrew)); obtain ⟨⟨q0, q1, q2, q3, q4, q5, q6⟩, -⟩ := (hc.strm e.num).1 p hg; have b1 := hkept.cell (b := w.heap.size) (i := 4) (by simp) (fun ho => by have := hh.out.lt ho; omega); have b2 := hkept.cell (b := w.heap.size) (i := 5) (by simp) (fun ho => by have := hh.out.lt ho; omega); simp [go_sem] at b1 b2; clear hc hkept hgrew)
    go_region
    all_goals
      (try go_wp2_with fail)
      go_ret
      exact ⟨by simp [g], g', known_drew (known ((Below.refl _ w).alloc (Nat.le_refl _) _) hP.out)⟩
  · have g3 := bnf g
    go_enter Try.func19, Try.ntmps19
    go_wp2_with (go_at_call 23; refine (of_any (hh.out.alloc _) hnum hn).mono ?_; rintro r w' ⟨p, g', rfl, hg, hc, hkept, hgrew⟩; have hP := Lib.hid (And.intro hc (And.intro hkept hgrew)); obtain ⟨⟨q0, q1, q2, q3, q4, q5, q6⟩, -⟩ := (hc.strm e.num).1 p hg; have b1 := hkept.cell (b := w.heap.size) (i := 4) (by simp) (fun ho => by have := hh.out.lt ho; omega); have b2 := hkept.cell (b := w.heap.size) (i := 5) (by simp) (fun ho => by have := hh.out.lt ho; omega); simp [go_sem] at b1 b2; clear hc hkept hgrew)
    go_region
    all_goals
      (try go_wp2_with fail)
      go_ret
      exact ⟨by simp [g], g', known_drew (known ((Below.refl _ w).alloc (Nat.le_refl _) _) hP.out)⟩
end Go.Proofs.Ytiefkpfjmbifcaa

/-
  What is minded of a frame that came: the walk.
-/
import Derived.Test.YtiefkpfjmbifcaaSets
import Derived.BigRegion
namespace Go.Proofs.Ytiefkpfjmbifcaa
open Go.RowKit Go.Maps

def heardF (s : St) (f : Frm) : St :=
  if f.k = 16 then { s with wide := mx s.wide f.a }
  else if f.k = 17 then s.upd f.a { s.strm f.a with wide := mx (s.strm f.a).wide f.b }
  else if f.k = 8 then s.upd f.a { s.strm f.a with came := mx (s.strm f.a).came (endF f) } else s
/-- The checker has gone on to s. -/
def Went (M : Mem) (n : Nat) (s : St) (w : World) (r : Ending) (w' : World) : Prop :=
  r = .returned (.tuple #[]) ∧ ∃ g', CK w' { M with g := g' } n s ∧ Kept M w w' ∧ Grew w M { M with g := g' }
set_option maxRecDepth 100000 in
set_option maxHeartbeats 4000000 in
theorem heard_any {w : World} {M : Mem} {n : Nat} {s : St} (h : CK w M n s) (f : Frm) (hf : f.Ok) (hn : n < maxLen) :
    Calls Try.prog 22 #[.pointer (some ⟨M.B, 0, none⟩), frV f] w (Went M (n + 1) (heardF s f) w) := by
  have hh := Lib.hid h
  have ha := hf.a
  have hend := end_any f
  have hfar := h.far (Nat.le_refl _)
  have hF0 := FB.new (w := w) rfl f 36
  have hmx : ∀ (w : World) (ts : Array TypeId) (t : TypeId) (x y : Int), (Builtin.max_ ts t #[.int .u64 x, .int .u64 y]).run Try.prog w = .ok (.int .u64 (mx x y)) w := fun w ts t x y => by rw [run_max_int2]; rfl
  have H0 : Hid (heardF s f = if f.k = 16 then { s with wide := mx s.wide f.a } else if f.k = 17 then s.upd f.a { s.strm f.a with wide := mx (s.strm f.a).wide f.b } else if f.k = 8 then s.upd f.a { s.strm f.a with came := mx (s.strm f.a).came (endF f) } else s) := rfl
  obtain ⟨-, -, -, -, -, -, -, -, -, -, -, -, -, -, c23, -⟩ := h.cells
  have ff := h.free 23 (by omega)
  have hB : M.B < w.heap.size := World.block_lt_of_cell? _ _ c23
  have hB1 : M.B ≠ w.heap.size := by omega
  clear h hf
  unfold frV at *
  obtain ⟨fk, fa, fb, fc, ffin, fd, fm, la, ln, lc, rs⟩ := f
  simp only at *
  generalize endF ⟨fk, fa, fb, fc, ffin, fd, fm, la, ln, lc, rs⟩ = en at *
  generalize heardF s ⟨fk, fa, fb, fc, ffin, fd, fm, la, ln, lc, rs⟩ = s' at *
  have H1 := H0.out
  clear H0
  rcases (show fk = 16 ∨ fk = 17 ∨ fk = 8 ∨ (fk ≠ 16 ∧ fk ≠ 17 ∧ fk ≠ 8) from by omega) with rfl | rfl | rfl | ⟨g16, g17, g8⟩
  · rw [if_pos rfl] at H1
    subst H1
    clear hend
    go_enter Try.func22, Try.ntmps22
    go_wp2_with fail
    go_region
    all_goals
      (try go_wp2_with fail)
      go_end0
      exact ⟨rfl, M.g, ((hh.out.mono (Nat.le_succ n)).put_wide _).1.alloc _ |>.drew, ((hh.out.put_wide _).2.trans1 (Kept.below (((Below.refl _ _).alloc (Nat.le_refl _) _).drew))), .refl w M⟩
  · rw [if_neg (by omega), if_pos rfl] at H1
    subst H1
    clear hend
    go_enter Try.func22, Try.ntmps22
    go_wp2_with (go_at_call 23; refine (of_any (hh.out.alloc _) ha hn).mono ?_; rintro r w1 ⟨p, g', rfl, hg, hc, hkept, hgrew⟩; have hF1 := hF0.kept hkept hfar; have hF1' := Lib.hid hF1; have hP := Lib.hid (known ((Below.refl _ w).alloc (Nat.le_refl _) _) ⟨hc, hkept, hgrew⟩); have hS := Lib.hid ((hc.strm fa).1 p hg); obtain ⟨⟨q0, q1, q2, q3, q4, q5, q6⟩, hfr, -⟩ := hS.out; have ff0 := hfr 0 (by omega); have ff5 := hfr 5 (by omega); obtain ⟨b0, b1, b2, b3, b4, b5, b6, b7⟩ := hF1; simp only at b0 b1 b2 b3 b4 b5 b6 b7; clear hc hkept hgrew hfr)
    go_region
    all_goals
      (try go_wp2_with fail)
      have hT := hP.out.1.putS hg (hS.out.set0 (mx (s.strm fa).wide fb))
      go_end0
      exact ⟨rfl, g', known_drew ⟨hT.1, hP.out.2.1.trans hP.out.2.2 hT.2, hP.out.2.2⟩⟩
  · rw [if_neg (by omega), if_neg (by omega), if_pos rfl] at H1
    subst H1
    go_enter Try.func22, Try.ntmps22
    go_wp2_with (go_at_call 23; refine (of_any (hh.out.alloc _) ha hn).mono ?_; rintro r w1 ⟨p, g', rfl, hg, hc, hkept, hgrew⟩; have hF1 := hF0.kept hkept hfar; have hF1' := Lib.hid hF1; have hP := Lib.hid (known ((Below.refl _ w).alloc (Nat.le_refl _) _) ⟨hc, hkept, hgrew⟩); have hS := Lib.hid ((hc.strm fa).1 p hg); obtain ⟨⟨q0, q1, q2, q3, q4, q5, q6⟩, hfr, -⟩ := hS.out; have ff0 := hfr 0 (by omega); have ff5 := hfr 5 (by omega); obtain ⟨b0, b1, b2, b3, b4, b5, b6, b7⟩ := hF1; simp only at b0 b1 b2 b3 b4 b5 b6 b7; clear hc hkept hgrew hfr)
    go_region_with (go_at_call 28; refine (hend _).mono ?_; rintro r w2 ⟨rfl, hb⟩; have hQ := Lib.hid (And.intro (hP.out.1.drew.below hb) (And.intro (hP.out.2.1.trans hP.out.2.2 (Kept.below (next2 hb (Below.refl _ w1).drew))) hP.out.2.2)); have hS2 := Lib.hid ((hQ.out.1.strm fa).1 p hg); obtain ⟨⟨-, -, -, -, -, r5, -⟩, hfr, -⟩ := hS2.out; have fr5 := hfr 5 (by omega); clear hfr hb)
    all_goals
      (try go_wp2_with fail)
      have hT := hQ.out.1.putS hg (hS2.out.set5 (mx (s.strm fa).came en))
      go_end0
      exact ⟨rfl, g', hT.1, hQ.out.2.1.trans hQ.out.2.2 hT.2, hQ.out.2.2⟩
  · rw [if_neg g16, if_neg g17, if_neg g8] at H1
    subst H1
    have e16 := bnf g16
    have e17 := bnf g17
    have e8 := bnf g8
    go_enter Try.func22, Try.ntmps22
    go_wp2_with fail
    go_end0
    exact ⟨rfl, M.g, ((hh.out.mono (Nat.le_succ n)).alloc _), Kept.below ((Below.refl _ w).alloc (Nat.le_refl _) _), .refl w M⟩
end Go.Proofs.Ytiefkpfjmbifcaa

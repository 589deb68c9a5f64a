/-
  The least rule that an event breaks: the walk, W11e.
-/
import Derived.Test.YtiefkpfjmbifcaaW11
namespace Go.Proofs.Ytiefkpfjmbifcaa
open Go.RowKit Go.Maps

set_option maxRecDepth 100000 in
set_option maxHeartbeats 16000000 in
theorem broken_13 {w : World} {M : Mem} {n : Nat} {s : St} (h : CK w M n s) (e : Ev) (he : e.Ok) (hn : n + 1 < maxLen) {B0 : Nat} (hB0 : B0 ≤ w.heap.size) (hr : Rng w B0 e.f.la e.f.ln e.f.rs) (h1 : timedF s e = true) (h2 : goesF s e = true) (hk : e.k = 13) :
    Calls Try.prog 12 #[.pointer (some ⟨M.B, 0, none⟩), evV e] w (Told M (n + 2) s (.int .i64 (brokenF s e)) w) := by
  have hh := Lib.hid h
  have hsp := he.sp
  have hnu := he.num
  have c14 := Lib.hid (fun (wx : World) (h : CK wx M n s) => timed_ck h e)
  have c15 := Lib.hid (fun (wx : World) (h : CK wx M n s) => goes_ck h e)
  have c16 := Lib.hid (fun (wx : World) (h : CK wx M n s) => comes_ck h e)
  have c17 := Lib.hid (fun (wx : World) (h : CK wx M n s) => stands_ck h e)
  have c18 := Lib.hid (fun (wx : World) (h : CK wx M n s) (hb : Below w.heap.size w wx) => frame_any h e he hn (Nat.le_trans hB0 hb.size) (hr.below (hb.mono hB0)))
  have c19 := Lib.hid (fun (wx : World) (h : CK wx M n s) => moves_any h e he (by omega))
  have hE0 := EVB.new (w := w) (b := w.heap.size) rfl e 38
  have H0 : Hid (brokenF s e = if timedF s e = false then 1 else if goesF s e = false then 2
    else if e.k = 5 ∧ e.num ≠ s.sent e.sp then 3 else if e.k = 6 ∧ s.got e.sp e.num = true then 4
    else if comesF s e = false then 5 else if standsF s e = false then 6
    else if e.k = 8 then frameF s e
    else if (e.k = 11 ∨ e.k = 10) ∧ (s.asks e.sp e.num = false ∨ s.settled e.sp e.num = true) then 9
    else if e.k = 13 ∧ movesF s e = false then 13 else 0) := rfl
  clear h he hr
  unfold evV at *
  obtain ⟨ek, esp, etm, enum_, emany, etext, fk, fa, fb, fc, ffin, fd, fm, la, ln, lc, rs⟩ := e
  simp only at *
  generalize brokenF s ⟨ek, esp, etm, enum_, emany, etext, fk, fa, fb, fc, ffin, fd, fm, la, ln, lc, rs⟩ = v at *
  generalize timedF s ⟨ek, esp, etm, enum_, emany, etext, fk, fa, fb, fc, ffin, fd, fm, la, ln, lc, rs⟩ = tm at *
  generalize goesF s ⟨ek, esp, etm, enum_, emany, etext, fk, fa, fb, fc, ffin, fd, fm, la, ln, lc, rs⟩ = go at *
  generalize comesF s ⟨ek, esp, etm, enum_, emany, etext, fk, fa, fb, fc, ffin, fd, fm, la, ln, lc, rs⟩ = cm at *
  generalize standsF s ⟨ek, esp, etm, enum_, emany, etext, fk, fa, fb, fc, ffin, fd, fm, la, ln, lc, rs⟩ = st at *
  generalize frameF s ⟨ek, esp, etm, enum_, emany, etext, fk, fa, fb, fc, ffin, fd, fm, la, ln, lc, rs⟩ = fr at *
  generalize movesF s ⟨ek, esp, etm, enum_, emany, etext, fk, fa, fb, fc, ffin, fd, fm, la, ln, lc, rs⟩ = mo at *
  have hA := Lib.hid (show BR M n s ⟨ek, esp, etm, enum_, emany, etext, fk, fa, fb, fc, ffin, fd, fm, la, ln, lc, rs⟩ w ((w.alloc (.cells #[.int .i64 ek, .int .i64 esp, .int .u64 etm, .int .u64 enum_, .int .u64 emany, .string etext, .int .u64 fk, .int .u64 fa, .int .u64 fb, .int .u64 fc, .bool ffin, .string fd, .string fm, .slice la ln lc] 38)).alloc (.cells #[.int .i64 esp, .int .u64 enum_] 52)) from ⟨(hh.out.alloc _).alloc _, hE0.below ((Below.refl _ _).alloc (Nat.le_refl _) _), ⟨by simp [go_sem], by simp [go_sem]⟩, ((Below.refl _ w).alloc (Nat.le_refl _) _).alloc (by simp) _⟩)
  have hv := H0.out
  clear H0 hE0
  subst h1
  subst h2
  rw [if_neg (by simp), if_neg (by simp)] at hv
  subst hk
  · rw [if_neg (by omega), if_neg (by omega)] at hv
    cases cm
    · rw [if_pos rfl] at hv
      subst hv
      go_enter Try.func12, Try.ntmps12
      go_wp2_with (first | (go_at_call 14; refine (c14.out _ hA.out.1).mono ?_; rintro r hX1w ⟨rfl, hb1⟩; have hX1 := Lib.hid (hA.out.below hb1); obtain ⟨e0, e1, e2, e3, e4, e5, e6, e7, e8, e9, e10, e11, e12, e13⟩ := hX1.out.2.1; obtain ⟨p0, p1⟩ := hX1.out.2.2.1; simp only at e0 e1 e2 e3 e4 e5 e6 e7 e8 e9 e10 e11 e12 e13 p0 p1; obtain ⟨-, -, -, -, -, -, -, -, -, d9, d10, d11, d12, -, -, -⟩ := hX1.out.1.cells; clear hb1) | (go_at_call 15; refine (c15.out _ hX1.out.1).mono ?_; rintro r hX2w ⟨rfl, hb1⟩; have hX2 := Lib.hid (hX1.out.below hb1); obtain ⟨e0, e1, e2, e3, e4, e5, e6, e7, e8, e9, e10, e11, e12, e13⟩ := hX2.out.2.1; obtain ⟨p0, p1⟩ := hX2.out.2.2.1; simp only at e0 e1 e2 e3 e4 e5 e6 e7 e8 e9 e10 e11 e12 e13 p0 p1; obtain ⟨-, -, -, -, -, -, -, -, -, d9, d10, d11, d12, -, -, -⟩ := hX2.out.1.cells; have l1 := hX2.out.1.drew.sent.look hsp; have l2 := hX2.out.1.drew.drew.got.look Try.underlying49 hsp hnu; have hX2d := Lib.hid hX2.out.drew.drew; clear hb1))
      go_region
      (try go_wp2_with fail)
      go_region
      (try go_wp2_with (go_at_call 16; refine (c16.out _ hX2d.out.1).mono ?_; rintro r hX3w ⟨rfl, hb1⟩; have hX3 := Lib.hid (hX2d.out.below hb1); obtain ⟨e0, e1, e2, e3, e4, e5, e6, e7, e8, e9, e10, e11, e12, e13⟩ := hX3.out.2.1; obtain ⟨p0, p1⟩ := hX3.out.2.2.1; simp only at e0 e1 e2 e3 e4 e5 e6 e7 e8 e9 e10 e11 e12 e13 p0 p1; obtain ⟨-, -, -, -, -, -, -, -, -, d9, d10, d11, d12, -, -, -⟩ := hX3.out.1.cells; clear hb1))
      go_ret
      exact ⟨rfl, M.g, hX3.out.1.mono (by omega), Kept.below hX3.out.2.2.2, .refl w M⟩
    rw [if_neg (by simp)] at hv
    cases st
    · rw [if_pos rfl] at hv
      subst hv
      go_enter Try.func12, Try.ntmps12
      go_wp2_with (first | (go_at_call 14; refine (c14.out _ hA.out.1).mono ?_; rintro r hX1w ⟨rfl, hb1⟩; have hX1 := Lib.hid (hA.out.below hb1); obtain ⟨e0, e1, e2, e3, e4, e5, e6, e7, e8, e9, e10, e11, e12, e13⟩ := hX1.out.2.1; obtain ⟨p0, p1⟩ := hX1.out.2.2.1; simp only at e0 e1 e2 e3 e4 e5 e6 e7 e8 e9 e10 e11 e12 e13 p0 p1; obtain ⟨-, -, -, -, -, -, -, -, -, d9, d10, d11, d12, -, -, -⟩ := hX1.out.1.cells; clear hb1) | (go_at_call 15; refine (c15.out _ hX1.out.1).mono ?_; rintro r hX2w ⟨rfl, hb1⟩; have hX2 := Lib.hid (hX1.out.below hb1); obtain ⟨e0, e1, e2, e3, e4, e5, e6, e7, e8, e9, e10, e11, e12, e13⟩ := hX2.out.2.1; obtain ⟨p0, p1⟩ := hX2.out.2.2.1; simp only at e0 e1 e2 e3 e4 e5 e6 e7 e8 e9 e10 e11 e12 e13 p0 p1; obtain ⟨-, -, -, -, -, -, -, -, -, d9, d10, d11, d12, -, -, -⟩ := hX2.out.1.cells; have l1 := hX2.out.1.drew.sent.look hsp; have l2 := hX2.out.1.drew.drew.got.look Try.underlying49 hsp hnu; have hX2d := Lib.hid hX2.out.drew.drew; clear hb1))
      go_region
      (try go_wp2_with fail)
      go_region
      (try go_wp2_with (first | (go_at_call 16; refine (c16.out _ hX2d.out.1).mono ?_; rintro r hX3w ⟨rfl, hb1⟩; have hX3 := Lib.hid (hX2d.out.below hb1); obtain ⟨e0, e1, e2, e3, e4, e5, e6, e7, e8, e9, e10, e11, e12, e13⟩ := hX3.out.2.1; obtain ⟨p0, p1⟩ := hX3.out.2.2.1; simp only at e0 e1 e2 e3 e4 e5 e6 e7 e8 e9 e10 e11 e12 e13 p0 p1; obtain ⟨-, -, -, -, -, -, -, -, -, d9, d10, d11, d12, -, -, -⟩ := hX3.out.1.cells; clear hb1) | (go_at_call 17; refine (c17.out _ hX3.out.1).mono ?_; rintro r hX4w ⟨rfl, hb1⟩; have hX4 := Lib.hid (hX3.out.below hb1); obtain ⟨e0, e1, e2, e3, e4, e5, e6, e7, e8, e9, e10, e11, e12, e13⟩ := hX4.out.2.1; obtain ⟨p0, p1⟩ := hX4.out.2.2.1; simp only at e0 e1 e2 e3 e4 e5 e6 e7 e8 e9 e10 e11 e12 e13 p0 p1; obtain ⟨-, -, -, -, -, -, -, -, -, d9, d10, d11, d12, -, -, -⟩ := hX4.out.1.cells; have l3 := hX4.out.1.drew.asks.look Try.underlying49 hsp hnu; have l4 := hX4.out.1.drew.settled.look Try.underlying49 hsp hnu; have hX4d := Lib.hid hX4.out.drew; clear hb1)))
      go_ret
      exact ⟨rfl, M.g, hX4.out.1.mono (by omega), Kept.below hX4.out.2.2.2, .refl w M⟩
    rw [if_neg (by simp)] at hv
    rw [if_neg (by omega), if_neg (by omega)] at hv
    cases mo
    · rw [if_pos (by simp)] at hv
      subst hv
      go_enter Try.func12, Try.ntmps12
      go_wp2_with (first | (go_at_call 14; refine (c14.out _ hA.out.1).mono ?_; rintro r hX1w ⟨rfl, hb1⟩; have hX1 := Lib.hid (hA.out.below hb1); obtain ⟨e0, e1, e2, e3, e4, e5, e6, e7, e8, e9, e10, e11, e12, e13⟩ := hX1.out.2.1; obtain ⟨p0, p1⟩ := hX1.out.2.2.1; simp only at e0 e1 e2 e3 e4 e5 e6 e7 e8 e9 e10 e11 e12 e13 p0 p1; obtain ⟨-, -, -, -, -, -, -, -, -, d9, d10, d11, d12, -, -, -⟩ := hX1.out.1.cells; clear hb1) | (go_at_call 15; refine (c15.out _ hX1.out.1).mono ?_; rintro r hX2w ⟨rfl, hb1⟩; have hX2 := Lib.hid (hX1.out.below hb1); obtain ⟨e0, e1, e2, e3, e4, e5, e6, e7, e8, e9, e10, e11, e12, e13⟩ := hX2.out.2.1; obtain ⟨p0, p1⟩ := hX2.out.2.2.1; simp only at e0 e1 e2 e3 e4 e5 e6 e7 e8 e9 e10 e11 e12 e13 p0 p1; obtain ⟨-, -, -, -, -, -, -, -, -, d9, d10, d11, d12, -, -, -⟩ := hX2.out.1.cells; have l1 := hX2.out.1.drew.sent.look hsp; have l2 := hX2.out.1.drew.drew.got.look Try.underlying49 hsp hnu; have hX2d := Lib.hid hX2.out.drew.drew; clear hb1))
      go_region
      (try go_wp2_with fail)
      go_region
      (try go_wp2_with (first | (go_at_call 16; refine (c16.out _ hX2d.out.1).mono ?_; rintro r hX3w ⟨rfl, hb1⟩; have hX3 := Lib.hid (hX2d.out.below hb1); obtain ⟨e0, e1, e2, e3, e4, e5, e6, e7, e8, e9, e10, e11, e12, e13⟩ := hX3.out.2.1; obtain ⟨p0, p1⟩ := hX3.out.2.2.1; simp only at e0 e1 e2 e3 e4 e5 e6 e7 e8 e9 e10 e11 e12 e13 p0 p1; obtain ⟨-, -, -, -, -, -, -, -, -, d9, d10, d11, d12, -, -, -⟩ := hX3.out.1.cells; clear hb1) | (go_at_call 17; refine (c17.out _ hX3.out.1).mono ?_; rintro r hX4w ⟨rfl, hb1⟩; have hX4 := Lib.hid (hX3.out.below hb1); obtain ⟨e0, e1, e2, e3, e4, e5, e6, e7, e8, e9, e10, e11, e12, e13⟩ := hX4.out.2.1; obtain ⟨p0, p1⟩ := hX4.out.2.2.1; simp only at e0 e1 e2 e3 e4 e5 e6 e7 e8 e9 e10 e11 e12 e13 p0 p1; obtain ⟨-, -, -, -, -, -, -, -, -, d9, d10, d11, d12, -, -, -⟩ := hX4.out.1.cells; have l3 := hX4.out.1.drew.asks.look Try.underlying49 hsp hnu; have l4 := hX4.out.1.drew.settled.look Try.underlying49 hsp hnu; have hX4d := Lib.hid hX4.out.drew; clear hb1)))
      go_region
      (try go_wp2_with (go_at_call 19; refine (c19.out _ hX4d.out.1).mono ?_; rintro r w9 ⟨rfl, g', hg⟩; have hZ := Lib.hid (known hX4d.out.2.2.2 hg); clear hg))
      go_ret
      exact ⟨rfl, g', hZ.out.1.mono (by omega), hZ.out.2⟩
    · rw [if_neg (by simp)] at hv
      subst hv
      go_enter Try.func12, Try.ntmps12
      go_wp2_with (first | (go_at_call 14; refine (c14.out _ hA.out.1).mono ?_; rintro r hX1w ⟨rfl, hb1⟩; have hX1 := Lib.hid (hA.out.below hb1); obtain ⟨e0, e1, e2, e3, e4, e5, e6, e7, e8, e9, e10, e11, e12, e13⟩ := hX1.out.2.1; obtain ⟨p0, p1⟩ := hX1.out.2.2.1; simp only at e0 e1 e2 e3 e4 e5 e6 e7 e8 e9 e10 e11 e12 e13 p0 p1; obtain ⟨-, -, -, -, -, -, -, -, -, d9, d10, d11, d12, -, -, -⟩ := hX1.out.1.cells; clear hb1) | (go_at_call 15; refine (c15.out _ hX1.out.1).mono ?_; rintro r hX2w ⟨rfl, hb1⟩; have hX2 := Lib.hid (hX1.out.below hb1); obtain ⟨e0, e1, e2, e3, e4, e5, e6, e7, e8, e9, e10, e11, e12, e13⟩ := hX2.out.2.1; obtain ⟨p0, p1⟩ := hX2.out.2.2.1; simp only at e0 e1 e2 e3 e4 e5 e6 e7 e8 e9 e10 e11 e12 e13 p0 p1; obtain ⟨-, -, -, -, -, -, -, -, -, d9, d10, d11, d12, -, -, -⟩ := hX2.out.1.cells; have l1 := hX2.out.1.drew.sent.look hsp; have l2 := hX2.out.1.drew.drew.got.look Try.underlying49 hsp hnu; have hX2d := Lib.hid hX2.out.drew.drew; clear hb1))
      go_region
      (try go_wp2_with fail)
      go_region
      (try go_wp2_with (first | (go_at_call 16; refine (c16.out _ hX2d.out.1).mono ?_; rintro r hX3w ⟨rfl, hb1⟩; have hX3 := Lib.hid (hX2d.out.below hb1); obtain ⟨e0, e1, e2, e3, e4, e5, e6, e7, e8, e9, e10, e11, e12, e13⟩ := hX3.out.2.1; obtain ⟨p0, p1⟩ := hX3.out.2.2.1; simp only at e0 e1 e2 e3 e4 e5 e6 e7 e8 e9 e10 e11 e12 e13 p0 p1; obtain ⟨-, -, -, -, -, -, -, -, -, d9, d10, d11, d12, -, -, -⟩ := hX3.out.1.cells; clear hb1) | (go_at_call 17; refine (c17.out _ hX3.out.1).mono ?_; rintro r hX4w ⟨rfl, hb1⟩; have hX4 := Lib.hid (hX3.out.below hb1); obtain ⟨e0, e1, e2, e3, e4, e5, e6, e7, e8, e9, e10, e11, e12, e13⟩ := hX4.out.2.1; obtain ⟨p0, p1⟩ := hX4.out.2.2.1; simp only at e0 e1 e2 e3 e4 e5 e6 e7 e8 e9 e10 e11 e12 e13 p0 p1; obtain ⟨-, -, -, -, -, -, -, -, -, d9, d10, d11, d12, -, -, -⟩ := hX4.out.1.cells; have l3 := hX4.out.1.drew.asks.look Try.underlying49 hsp hnu; have l4 := hX4.out.1.drew.settled.look Try.underlying49 hsp hnu; have hX4d := Lib.hid hX4.out.drew; clear hb1)))
      go_region
      (try go_wp2_with (go_at_call 19; refine (c19.out _ hX4d.out.1).mono ?_; rintro r w9 ⟨rfl, g', hg⟩; have hZ := Lib.hid (known hX4d.out.2.2.2 hg); clear hg))
      go_ret
      exact ⟨rfl, g', hZ.out.1.mono (by omega), hZ.out.2⟩

set_option maxRecDepth 100000 in
set_option maxHeartbeats 16000000 in
theorem broken_0 {w : World} {M : Mem} {n : Nat} {s : St} (h : CK w M n s) (e : Ev) (he : e.Ok) (hn : n + 1 < maxLen) {B0 : Nat} (hB0 : B0 ≤ w.heap.size) (hr : Rng w B0 e.f.la e.f.ln e.f.rs) (h1 : timedF s e = true) (h2 : goesF s e = true) (hk : e.k ≠ 5 ∧ e.k ≠ 6 ∧ e.k ≠ 8 ∧ e.k ≠ 11 ∧ e.k ≠ 10 ∧ e.k ≠ 13) :
    Calls Try.prog 12 #[.pointer (some ⟨M.B, 0, none⟩), evV e] w (Told M (n + 2) s (.int .i64 (brokenF s e)) w) := by
  have hh := Lib.hid h
  have hsp := he.sp
  have hnu := he.num
  have c14 := Lib.hid (fun (wx : World) (h : CK wx M n s) => timed_ck h e)
  have c15 := Lib.hid (fun (wx : World) (h : CK wx M n s) => goes_ck h e)
  have c16 := Lib.hid (fun (wx : World) (h : CK wx M n s) => comes_ck h e)
  have c17 := Lib.hid (fun (wx : World) (h : CK wx M n s) => stands_ck h e)
  have c18 := Lib.hid (fun (wx : World) (h : CK wx M n s) (hb : Below w.heap.size w wx) => frame_any h e he hn (Nat.le_trans hB0 hb.size) (hr.below (hb.mono hB0)))
  have c19 := Lib.hid (fun (wx : World) (h : CK wx M n s) => moves_any h e he (by omega))
  have hE0 := EVB.new (w := w) (b := w.heap.size) rfl e 38
  have H0 : Hid (brokenF s e = if timedF s e = false then 1 else if goesF s e = false then 2
    else if e.k = 5 ∧ e.num ≠ s.sent e.sp then 3 else if e.k = 6 ∧ s.got e.sp e.num = true then 4
    else if comesF s e = false then 5 else if standsF s e = false then 6
    else if e.k = 8 then frameF s e
    else if (e.k = 11 ∨ e.k = 10) ∧ (s.asks e.sp e.num = false ∨ s.settled e.sp e.num = true) then 9
    else if e.k = 13 ∧ movesF s e = false then 13 else 0) := rfl
  clear h he hr
  unfold evV at *
  obtain ⟨ek, esp, etm, enum_, emany, etext, fk, fa, fb, fc, ffin, fd, fm, la, ln, lc, rs⟩ := e
  simp only at *
  generalize brokenF s ⟨ek, esp, etm, enum_, emany, etext, fk, fa, fb, fc, ffin, fd, fm, la, ln, lc, rs⟩ = v at *
  generalize timedF s ⟨ek, esp, etm, enum_, emany, etext, fk, fa, fb, fc, ffin, fd, fm, la, ln, lc, rs⟩ = tm at *
  generalize goesF s ⟨ek, esp, etm, enum_, emany, etext, fk, fa, fb, fc, ffin, fd, fm, la, ln, lc, rs⟩ = go at *
  generalize comesF s ⟨ek, esp, etm, enum_, emany, etext, fk, fa, fb, fc, ffin, fd, fm, la, ln, lc, rs⟩ = cm at *
  generalize standsF s ⟨ek, esp, etm, enum_, emany, etext, fk, fa, fb, fc, ffin, fd, fm, la, ln, lc, rs⟩ = st at *
  generalize frameF s ⟨ek, esp, etm, enum_, emany, etext, fk, fa, fb, fc, ffin, fd, fm, la, ln, lc, rs⟩ = fr at *
  generalize movesF s ⟨ek, esp, etm, enum_, emany, etext, fk, fa, fb, fc, ffin, fd, fm, la, ln, lc, rs⟩ = mo at *
  have hA := Lib.hid (show BR M n s ⟨ek, esp, etm, enum_, emany, etext, fk, fa, fb, fc, ffin, fd, fm, la, ln, lc, rs⟩ w ((w.alloc (.cells #[.int .i64 ek, .int .i64 esp, .int .u64 etm, .int .u64 enum_, .int .u64 emany, .string etext, .int .u64 fk, .int .u64 fa, .int .u64 fb, .int .u64 fc, .bool ffin, .string fd, .string fm, .slice la ln lc] 38)).alloc (.cells #[.int .i64 esp, .int .u64 enum_] 52)) from ⟨(hh.out.alloc _).alloc _, hE0.below ((Below.refl _ _).alloc (Nat.le_refl _) _), ⟨by simp [go_sem], by simp [go_sem]⟩, ((Below.refl _ w).alloc (Nat.le_refl _) _).alloc (by simp) _⟩)
  have hv := H0.out
  clear H0 hE0
  subst h1
  subst h2
  rw [if_neg (by simp), if_neg (by simp)] at hv
  obtain ⟨k5, k6, k8, k11, k10, k13⟩ := hk
  · have b5 := bnf k5
    have b6 := bnf k6
    have b8 := bnf k8
    have b11 := bnf k11
    have b10 := bnf k10
    have b13 := bnf k13
    rw [if_neg (by omega), if_neg (by omega)] at hv
    cases cm
    · rw [if_pos rfl] at hv
      subst hv
      go_enter Try.func12, Try.ntmps12
      go_wp2_with (first | (go_at_call 14; refine (c14.out _ hA.out.1).mono ?_; rintro r hX1w ⟨rfl, hb1⟩; have hX1 := Lib.hid (hA.out.below hb1); obtain ⟨e0, e1, e2, e3, e4, e5, e6, e7, e8, e9, e10, e11, e12, e13⟩ := hX1.out.2.1; obtain ⟨p0, p1⟩ := hX1.out.2.2.1; simp only at e0 e1 e2 e3 e4 e5 e6 e7 e8 e9 e10 e11 e12 e13 p0 p1; obtain ⟨-, -, -, -, -, -, -, -, -, d9, d10, d11, d12, -, -, -⟩ := hX1.out.1.cells; clear hb1) | (go_at_call 15; refine (c15.out _ hX1.out.1).mono ?_; rintro r hX2w ⟨rfl, hb1⟩; have hX2 := Lib.hid (hX1.out.below hb1); obtain ⟨e0, e1, e2, e3, e4, e5, e6, e7, e8, e9, e10, e11, e12, e13⟩ := hX2.out.2.1; obtain ⟨p0, p1⟩ := hX2.out.2.2.1; simp only at e0 e1 e2 e3 e4 e5 e6 e7 e8 e9 e10 e11 e12 e13 p0 p1; obtain ⟨-, -, -, -, -, -, -, -, -, d9, d10, d11, d12, -, -, -⟩ := hX2.out.1.cells; have l1 := hX2.out.1.drew.sent.look hsp; have l2 := hX2.out.1.drew.drew.got.look Try.underlying49 hsp hnu; have hX2d := Lib.hid hX2.out.drew.drew; clear hb1))
      go_region
      (try go_wp2_with fail)
      go_region
      (try go_wp2_with (go_at_call 16; refine (c16.out _ hX2d.out.1).mono ?_; rintro r hX3w ⟨rfl, hb1⟩; have hX3 := Lib.hid (hX2d.out.below hb1); obtain ⟨e0, e1, e2, e3, e4, e5, e6, e7, e8, e9, e10, e11, e12, e13⟩ := hX3.out.2.1; obtain ⟨p0, p1⟩ := hX3.out.2.2.1; simp only at e0 e1 e2 e3 e4 e5 e6 e7 e8 e9 e10 e11 e12 e13 p0 p1; obtain ⟨-, -, -, -, -, -, -, -, -, d9, d10, d11, d12, -, -, -⟩ := hX3.out.1.cells; clear hb1))
      go_ret
      exact ⟨rfl, M.g, hX3.out.1.mono (by omega), Kept.below hX3.out.2.2.2, .refl w M⟩
    rw [if_neg (by simp)] at hv
    cases st
    · rw [if_pos rfl] at hv
      subst hv
      go_enter Try.func12, Try.ntmps12
      go_wp2_with (first | (go_at_call 14; refine (c14.out _ hA.out.1).mono ?_; rintro r hX1w ⟨rfl, hb1⟩; have hX1 := Lib.hid (hA.out.below hb1); obtain ⟨e0, e1, e2, e3, e4, e5, e6, e7, e8, e9, e10, e11, e12, e13⟩ := hX1.out.2.1; obtain ⟨p0, p1⟩ := hX1.out.2.2.1; simp only at e0 e1 e2 e3 e4 e5 e6 e7 e8 e9 e10 e11 e12 e13 p0 p1; obtain ⟨-, -, -, -, -, -, -, -, -, d9, d10, d11, d12, -, -, -⟩ := hX1.out.1.cells; clear hb1) | (go_at_call 15; refine (c15.out _ hX1.out.1).mono ?_; rintro r hX2w ⟨rfl, hb1⟩; have hX2 := Lib.hid (hX1.out.below hb1); obtain ⟨e0, e1, e2, e3, e4, e5, e6, e7, e8, e9, e10, e11, e12, e13⟩ := hX2.out.2.1; obtain ⟨p0, p1⟩ := hX2.out.2.2.1; simp only at e0 e1 e2 e3 e4 e5 e6 e7 e8 e9 e10 e11 e12 e13 p0 p1; obtain ⟨-, -, -, -, -, -, -, -, -, d9, d10, d11, d12, -, -, -⟩ := hX2.out.1.cells; have l1 := hX2.out.1.drew.sent.look hsp; have l2 := hX2.out.1.drew.drew.got.look Try.underlying49 hsp hnu; have hX2d := Lib.hid hX2.out.drew.drew; clear hb1))
      go_region
      (try go_wp2_with fail)
      go_region
      (try go_wp2_with (first | (go_at_call 16; refine (c16.out _ hX2d.out.1).mono ?_; rintro r hX3w ⟨rfl, hb1⟩; have hX3 := Lib.hid (hX2d.out.below hb1); obtain ⟨e0, e1, e2, e3, e4, e5, e6, e7, e8, e9, e10, e11, e12, e13⟩ := hX3.out.2.1; obtain ⟨p0, p1⟩ := hX3.out.2.2.1; simp only at e0 e1 e2 e3 e4 e5 e6 e7 e8 e9 e10 e11 e12 e13 p0 p1; obtain ⟨-, -, -, -, -, -, -, -, -, d9, d10, d11, d12, -, -, -⟩ := hX3.out.1.cells; clear hb1) | (go_at_call 17; refine (c17.out _ hX3.out.1).mono ?_; rintro r hX4w ⟨rfl, hb1⟩; have hX4 := Lib.hid (hX3.out.below hb1); obtain ⟨e0, e1, e2, e3, e4, e5, e6, e7, e8, e9, e10, e11, e12, e13⟩ := hX4.out.2.1; obtain ⟨p0, p1⟩ := hX4.out.2.2.1; simp only at e0 e1 e2 e3 e4 e5 e6 e7 e8 e9 e10 e11 e12 e13 p0 p1; obtain ⟨-, -, -, -, -, -, -, -, -, d9, d10, d11, d12, -, -, -⟩ := hX4.out.1.cells; have l3 := hX4.out.1.drew.asks.look Try.underlying49 hsp hnu; have l4 := hX4.out.1.drew.settled.look Try.underlying49 hsp hnu; have hX4d := Lib.hid hX4.out.drew; clear hb1)))
      go_ret
      exact ⟨rfl, M.g, hX4.out.1.mono (by omega), Kept.below hX4.out.2.2.2, .refl w M⟩
    rw [if_neg (by simp)] at hv
    rw [if_neg (by omega), if_neg (by omega), if_neg (by omega)] at hv
    subst hv
    go_enter Try.func12, Try.ntmps12
    go_wp2_with (first | (go_at_call 14; refine (c14.out _ hA.out.1).mono ?_; rintro r hX1w ⟨rfl, hb1⟩; have hX1 := Lib.hid (hA.out.below hb1); obtain ⟨e0, e1, e2, e3, e4, e5, e6, e7, e8, e9, e10, e11, e12, e13⟩ := hX1.out.2.1; obtain ⟨p0, p1⟩ := hX1.out.2.2.1; simp only at e0 e1 e2 e3 e4 e5 e6 e7 e8 e9 e10 e11 e12 e13 p0 p1; obtain ⟨-, -, -, -, -, -, -, -, -, d9, d10, d11, d12, -, -, -⟩ := hX1.out.1.cells; clear hb1) | (go_at_call 15; refine (c15.out _ hX1.out.1).mono ?_; rintro r hX2w ⟨rfl, hb1⟩; have hX2 := Lib.hid (hX1.out.below hb1); obtain ⟨e0, e1, e2, e3, e4, e5, e6, e7, e8, e9, e10, e11, e12, e13⟩ := hX2.out.2.1; obtain ⟨p0, p1⟩ := hX2.out.2.2.1; simp only at e0 e1 e2 e3 e4 e5 e6 e7 e8 e9 e10 e11 e12 e13 p0 p1; obtain ⟨-, -, -, -, -, -, -, -, -, d9, d10, d11, d12, -, -, -⟩ := hX2.out.1.cells; have l1 := hX2.out.1.drew.sent.look hsp; have l2 := hX2.out.1.drew.drew.got.look Try.underlying49 hsp hnu; have hX2d := Lib.hid hX2.out.drew.drew; clear hb1))
    go_region
    (try go_wp2_with fail)
    go_region
    (try go_wp2_with (first | (go_at_call 16; refine (c16.out _ hX2d.out.1).mono ?_; rintro r hX3w ⟨rfl, hb1⟩; have hX3 := Lib.hid (hX2d.out.below hb1); obtain ⟨e0, e1, e2, e3, e4, e5, e6, e7, e8, e9, e10, e11, e12, e13⟩ := hX3.out.2.1; obtain ⟨p0, p1⟩ := hX3.out.2.2.1; simp only at e0 e1 e2 e3 e4 e5 e6 e7 e8 e9 e10 e11 e12 e13 p0 p1; obtain ⟨-, -, -, -, -, -, -, -, -, d9, d10, d11, d12, -, -, -⟩ := hX3.out.1.cells; clear hb1) | (go_at_call 17; refine (c17.out _ hX3.out.1).mono ?_; rintro r hX4w ⟨rfl, hb1⟩; have hX4 := Lib.hid (hX3.out.below hb1); obtain ⟨e0, e1, e2, e3, e4, e5, e6, e7, e8, e9, e10, e11, e12, e13⟩ := hX4.out.2.1; obtain ⟨p0, p1⟩ := hX4.out.2.2.1; simp only at e0 e1 e2 e3 e4 e5 e6 e7 e8 e9 e10 e11 e12 e13 p0 p1; obtain ⟨-, -, -, -, -, -, -, -, -, d9, d10, d11, d12, -, -, -⟩ := hX4.out.1.cells; have l3 := hX4.out.1.drew.asks.look Try.underlying49 hsp hnu; have l4 := hX4.out.1.drew.settled.look Try.underlying49 hsp hnu; have hX4d := Lib.hid hX4.out.drew; clear hb1)))
    go_region
    (try go_wp2_with fail)
    go_ret
    exact ⟨rfl, M.g, hX4d.out.1.mono (by omega), Kept.below hX4d.out.2.2.2, .refl w M⟩

end Go.Proofs.Ytiefkpfjmbifcaa

/-
  The least rule from 10 on that a Stream, or a Reset, breaks: the walk.
-/
import Derived.Test.YtiefkpfjmbifcaaBox
namespace Go.Proofs.Ytiefkpfjmbifcaa
open Go.RowKit Go.Maps

def finF (f : Frm) : Bool := f.fin || f.k == 4
def bad12 (x : Strm) (f : Frm) : Bool :=
  (x.known && (decide (x.final < endF f) || finF f && endF f != x.final)) || (!x.known && finF f && decide (endF f < x.sent)) || (f.k == 8 && x.reset)
def bytesF (s : St) (f : Frm) : Int :=
  if f.k = 8 ∧ limitF s f.a < endF f then 10
  else if f.k = 8 ∧ mx (s.lim 4) s.wide < IntKind.u64.wrap (sumF s f.a + mx (endF f) (s.strm f.a).sent) then 11
  else if bad12 (s.strm f.a) f = true then 12 else 0

set_option maxRecDepth 100000 in
set_option maxHeartbeats 8000000 in
theorem bytes_any {w : World} {M : Mem} {n : Nat} {s : St} (h : CK w M n s) (f : Frm) (hf : f.Ok) (hn : n + 1 < maxLen) :
    Calls Try.prog 27 #[.pointer (some ⟨M.B, 0, none⟩), frV f] w (Told M (n + 2) s (.int .i64 (bytesF s f)) w) := by
  have hh := Lib.hid h
  have hn0 : n < maxLen := by omega
  have ha := hf.a
  have hfar := h.far (Nat.le_refl _)
  clear h hf
  have hF0 := FB.new (w := w) rfl f 36
  have hend := end_any f
  have hmx : ∀ (w : World) (ts : Array TypeId) (t : TypeId) (x y : Int), (Builtin.max_ ts t #[.int .u64 x, .int .u64 y]).run Try.prog w = .ok (.int .u64 (mx x y)) w := fun w ts t x y => by rw [run_max_int2]; rfl
  have Hb : Hid (bad12 (s.strm f.a) f = ((s.strm f.a).known && (decide ((s.strm f.a).final < endF f) || finF f && endF f != (s.strm f.a).final) || (!(s.strm f.a).known && finF f && decide (endF f < (s.strm f.a).sent)) || (f.k == 8 && (s.strm f.a).reset))) := rfl
  have H0 : Hid (bytesF s f = if f.k = 8 ∧ limitF s f.a < endF f then 10 else if f.k = 8 ∧ mx (s.lim 4) s.wide < IntKind.u64.wrap (sumF s f.a + mx (endF f) (s.strm f.a).sent) then 11 else if bad12 (s.strm f.a) f = true then 12 else 0) := rfl
  have hfinF : Hid (finF f = (f.fin || f.k == 4)) := rfl
  unfold frV at *
  obtain ⟨fk, fa, fb, fc, ffin, fd, fm, la, ln, lc, rs⟩ := f
  simp only at *
  generalize endF ⟨fk, fa, fb, fc, ffin, fd, fm, la, ln, lc, rs⟩ = en at *
  generalize finF ⟨fk, fa, fb, fc, ffin, fd, fm, la, ln, lc, rs⟩ = fin at *
  generalize bad12 (s.strm fa) ⟨fk, fa, fb, fc, ffin, fd, fm, la, ln, lc, rs⟩ = bad at *
  generalize bytesF s ⟨fk, fa, fb, fc, ffin, fd, fm, la, ln, lc, rs⟩ = by_ at *
  go_enter Try.func27, Try.ntmps27
  go_wp2_with fail
  go_cut [5, 6] (fun s5 s6 wx => ∃ (p : Nat) (g' : Int → Option Nat), s5 = .pointer (some ⟨p, 0, none⟩) ∧ s6 = .int .u64 en ∧ g' fa = some p ∧ FB wx w.heap.size ⟨fk, fa, fb, fc, ffin, fd, fm, la, ln, lc, rs⟩ ∧ ¬ ({ M with g := g' } : Mem).owns w.heap.size ∧ CK wx { M with g := g' } (n + 1) s ∧ Kept M w wx ∧ Grew w M { M with g := g' })
  case first =>
    clear hmx
    go_region_held3 (fun w' => w'.cell? ⟨w.heap.size, 0, none⟩ = some (.int .u64 fk) ∧ w'.cell? ⟨w.heap.size, 1, none⟩ = some (.int .u64 fa) ∧ w'.cell? ⟨w.heap.size, 2, none⟩ = some (.int .u64 fb) ∧ w'.cell? ⟨w.heap.size, 3, none⟩ = some (.int .u64 fc) ∧
        w'.cell? ⟨w.heap.size, 4, none⟩ = some (.bool ffin) ∧ w'.cell? ⟨w.heap.size, 5, none⟩ = some (.string fd) ∧ w'.cell? ⟨w.heap.size, 6, none⟩ = some (.string fm) ∧ w'.cell? ⟨w.heap.size, 7, none⟩ = some (.slice la ln lc))
      (first | exact hF0 | exact hF2 | exact hF1)
      (first
        | (go_at_call 23; refine (of_any (hh.out.alloc _).drew ha hn0).mono ?_; rintro r w1 ⟨p, g', rfl, hg, hc, hkept, hgrew⟩; have hF1 := hF0.drew.kept hkept hfar; have hN := hgrew.not (b := w.heap.size) (by simp) hfar; have hP := Lib.hid (known ((Below.refl _ w).alloc (Nat.le_refl _) _).drew ⟨hc, hkept, hgrew⟩); clear hc hkept hgrew)
        | (go_at_call 28; refine (hend _).mono ?_; rintro r w2 ⟨rfl, hb⟩; have hF2 := hF1.below hb; have hQ := Lib.hid (And.intro (hP.out.1.below hb) (And.intro (hP.out.2.1.trans hP.out.2.2 (Kept.below hb)) hP.out.2.2)); clear hb))
    all_goals
      (try go_wp2_with fail)
      go_meet
      exact ⟨p, g', rfl, rfl, hg, hF2, hN, hQ.out⟩
  case rest =>
    obtain ⟨p, g', rfl, rfl, hg, hF, hN, hc, hk, hgr⟩ := hcut
    have hN' := Lib.hid hN
    clear hN
    have hF' := Lib.hid hF
    have hR := Lib.hid (And.intro hc (And.intro hk hgr))
    obtain ⟨f0, f1, f2, f3, f4, f5, f6, f7⟩ := hF
    simp only at f0 f1 f2 f3 f4 f5 f6 f7
    clear hc hk hgr hF0 hend hh
    go_upto_region 2 with fail
    go_cut [7] (fun s7 wx => s7 = .bool fin ∧ wx = wc)
    case first =>
      have e := hfinF.out
      cases ffin
      · by_cases g4 : fk = 4
        · subst g4
          simp at e
          subst e
          go_wp2_with fail
          go_meet
          exact ⟨rfl, rfl⟩
        · have g5 := bnf g4
          rw [g5] at e
          simp at e
          subst e
          go_wp2_with fail
          go_meet
          exact ⟨by simp, rfl⟩
      · simp at e
        subst e
        go_wp2_with fail
        go_meet
        exact ⟨rfl, rfl⟩
    case rest =>
      obtain ⟨rfl, rfl⟩ := hcut
      clear hfinF
      by_cases h8 : fk = 8
      · subst h8
        have h8' : ((8 : Int) == 8) = true := rfl
        have hlim := limit_any hR.out.1 ha hn
        have H1 : Hid (by_ = if limitF s fa < en then 10 else if mx (s.lim 4) s.wide < IntKind.u64.wrap (sumF s fa + mx en (s.strm fa).sent) then 11 else if bad = true then 12 else 0) := by
          show _ = _
          rw [H0.out]
          simp
        clear H0
        by_cases hl : limitF s fa < en
        · have hz : Hid (by_ = 10) := by show _ = _; rw [H1.out, if_pos hl]
          clear H1 Hb
          generalize limitF s fa = L at *
          go_wp2_with (go_at_call 30; refine hlim.mono ?_; rintro r w2 ⟨rfl, g2, hc2, hk2, hg2⟩; have hP := Lib.hid (And.intro hc2 (And.intro (hR.out.2.1.trans hR.out.2.2 hk2) (hR.out.2.2.trans hR.out.2.1.size hg2))); clear hc2 hk2 hg2)
          go_ret
          exact ⟨by rw [hz.out]; rfl, g2, hP.out⟩
        · have hL := Lib.hid hl
          go_upto_region 5 with (go_at_call 30; refine hlim.mono ?_; rintro r w2 ⟨rfl, g2, hc2, hk2, hg2⟩; have hF2 := Lib.hid (hF'.out.kept hk2 hN'.out); have hP := Lib.hid (And.intro hc2 (And.intro (hR.out.2.1.trans hR.out.2.2 hk2) (hR.out.2.2.trans hR.out.2.1.size hg2))); have hgp := hg2.2.2.2 fa p hg; clear hc2 hk2 hg2)
          have hsum := sum_any hP.out.1.drew hgp
          have hs := (hP.out.1.strm fa).1 p hgp
          obtain ⟨⟨q0, q1, q2, q3, q4, q5, q6⟩, -⟩ := hs
          obtain ⟨-, -, -, -, -, -, -, -, -, -, -, -, -, ⟨-, -, -, -, c17, -, -, -, -, -⟩, c23, -⟩ := hP.out.1.cells
          clear f0 f1 f2 f3 f4 f5 f6 f7
          obtain ⟨f0, f1, f2, f3, f4, f5, f6, f7⟩ := hF2.out
          simp only at f0 f1 f2 f3 f4 f5 f6 f7
          clear hlim hl
          have hB2 : M.B < w2.heap.size := World.block_lt_of_cell? _ _ c17
          have hp2 : p < w2.heap.size := World.block_lt_of_cell? _ _ q1
          have hb2 : w.heap.size < w2.heap.size := World.block_lt_of_cell? _ _ f0
          go_cut [33] (fun s33 wx => s33 = .bool (decide (mx (s.lim 4) s.wide < IntKind.u64.wrap (sumF s fa + mx en (s.strm fa).sent))) ∧ Below w2.heap.size w2 wx)
          case first =>
            clear H1 Hb
            go_region_held3 (fun w' => w'.cell? ⟨w.heap.size, 0, none⟩ = some (.int .u64 8) ∧ w'.cell? ⟨p, 1, none⟩ = some (.int .u64 (s.strm fa).sent) ∧ w'.cell? ⟨M.B, 17, none⟩ = some (.int .u64 (s.lim 4)) ∧ w'.cell? ⟨M.B, 23, none⟩ = some (.int .u64 s.wide))
              (first | exact ⟨(hb3.cell hb2).trans f0, (hb3.cell hp2).trans q1, (hb3.cell hB2).trans c17, (hb3.cell hB2).trans c23⟩ | exact ⟨f0, q1, c17, c23⟩)
              (first | (go_at_call 31; refine hsum.mono ?_; rintro r w3 ⟨rfl, hb3⟩))
            all_goals
              (try go_wp2_with fail)
              go_meet
              exact ⟨rfl, next2 hb3 (Below.refl _ w2).drew⟩
          case rest =>
            obtain ⟨rfl, hb3⟩ := hcut
            have hQ := Lib.hid (And.intro (hP.out.1.below hb3) (And.intro (hP.out.2.1.trans hP.out.2.2 (Kept.below hb3)) hP.out.2.2))
            have hF3 := hF2.out.below hb3
            clear f0 f1 f2 f3 f4 f5 f6 f7 q0 q1 q2 q3 q4 q5 q6 c17 c23 hsum hmx
            have hs := (hQ.out.1.strm fa).1 p hgp
            obtain ⟨⟨q0, q1, q2, q3, q4, q5, q6⟩, -⟩ := hs
            obtain ⟨f0, f1, f2, f3, f4, f5, f6, f7⟩ := hF3
            simp only at f0 f1 f2 f3 f4 f5 f6 f7
            by_cases h11 : mx (s.lim 4) s.wide < IntKind.u64.wrap (sumF s fa + mx en (s.strm fa).sent)
            · have hz : Hid (by_ = 11) := by show _ = _; rw [H1.out, if_neg (by have := hL.out; omega), if_pos h11]
              have h11' := decide_eq_true h11
              rw [h11']
              clear H1 Hb h11 h11'
              go_wp2_with fail
              go_ret
              exact ⟨by rw [hz.out]; rfl, g2, hQ.out⟩
            · have hz : Hid (by_ = if bad = true then 12 else 0) := by show _ = _; rw [H1.out, if_neg (by have := hL.out; omega), if_neg h11]
              have h11' := decide_eq_false h11
              rw [h11']
              clear H1 h11 h11'
              cases hkn : (s.strm fa).known
              all_goals
                cases hrs : (s.strm fa).reset
                all_goals
                  rw [hkn] at q3
                  rw [hrs] at q4
                  cases fin
                  all_goals go_wp2_with fail
                  all_goals
                    go_ret
                    cases bad
                    all_goals
                      have hz := hz.out
                      have hb := Hb.out
                      (simp [hkn, hrs] at hb) <;> first
                        | (exfalso; omega)
                        | (exfalso; simp only [bne_iff_ne, ne_eq, bne_eq_false_iff_eq] at *; omega)
                        | exact ⟨by rw [hz]; rfl, g2, hQ.out⟩
      · have h8' := bnf h8
        have hs := (hR.out.1.strm fa).1 p hg
        obtain ⟨⟨q0, q1, q2, q3, q4, q5, q6⟩, -⟩ := hs
        have hz : Hid (by_ = if bad = true then 12 else 0) := by
          show _ = _
          rw [H0.out, if_neg (fun h => h8 h.1), if_neg (fun h => h8 h.1)]
        clear H0 hmx
        cases hkn : (s.strm fa).known
        all_goals
          rw [hkn] at q3
          cases fin
          all_goals
            go_wp2_with fail
            go_region
            all_goals
              go_wp2_with fail
              all_goals
                go_ret
                cases bad
                all_goals
                  have hz := hz.out
                  have hb := Hb.out
                  (simp [hkn, h8'] at hb) <;> first
                    | (exfalso; omega)
                    | (exfalso; simp only [bne_iff_ne, ne_eq, bne_eq_false_iff_eq] at *; omega)
                    | exact ⟨by rw [hz]; rfl, g', known_drew ⟨hR.out.1.mono (by omega), hR.out.2⟩⟩
end Go.Proofs.Ytiefkpfjmbifcaa

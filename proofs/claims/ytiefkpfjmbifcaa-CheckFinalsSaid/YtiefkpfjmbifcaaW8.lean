/-
  What is minded of a frame that goes: the walk.
-/
import Derived.Test.YtiefkpfjmbifcaaW7
namespace Go.Proofs.Ytiefkpfjmbifcaa
open Go.RowKit Go.Maps

def quietK (k : Int) : Prop := k = 0 ∨ k = 2 ∨ k = 3 ∨ k = 28 ∨ k = 29
instance (k : Int) : Decidable (quietK k) := by unfold quietK; infer_instance
def askF (s : St) (f : Frm) : St := if quietK f.k then s else { s with asks := setB s.asks s.gs s.gn }
def sentX (x : Strm) (f : Frm) : Strm := if f.k = 8 then { x with sent := mx x.sent (endF f) } else x
def resetX (x : Strm) (f : Frm) : Strm := { x with reset := x.reset || f.k == 4 }
def finalX (x : Strm) (f : Frm) : Strm := if (!x.known && (f.fin || f.k == 4)) = true then { x with final := endF f, known := true } else x
def toldF (s : St) (f : Frm) : St :=
  if f.k = 8 ∨ f.k = 4 then (askF s f).upd f.a (finalX (resetX (sentX (s.strm f.a) f) f) f) else askF s f
theorem upd_upd (s : St) (id : Int) (x y : Strm) : (s.upd id x).upd id y = s.upd id y := by
  simp only [St.upd, if_true, St.mk.injEq, true_and]
  refine ⟨?_, ?_⟩
  · funext i
    split <;> rfl
  · rw [wrap_total]
    congr 1
    omega
theorem ck_asks {w w' : World} {M : Mem} {n : Nat} {s : St} (h : CK w M n s) (ht : w.mapTurned w' M.m2) (hm : MapB w' M.m2 (n + 1) (setB s.asks s.gs s.gn)) : CK w' M (n + 1) { s with asks := setB s.asks s.gs s.gn } ∧ Kept M w w' := by
  have hnd := h.nd
  simp [Mem.fix] at hnd
  obtain ⟨⟨a1, a2, a3, a4, a5⟩, ⟨b2, b3, b4, b5⟩, ⟨c3, c4, c5⟩, ⟨d4, d5⟩, d6⟩ := hnd
  refine ⟨h.setM M.m2 (.inr (.inl rfl)) (by omega) ht ?_ ?_ ?_ ?_ (fun _ h => h) rfl rfl rfl rfl, Kept.turned (.inl M.fix_mem.2.2.1) ht⟩
  · rw [if_neg (Ne.symm b2)]
  · rw [if_pos rfl]; exact hm
  · rw [if_neg c3]
  · rw [if_neg c4]
/-- What is known while a frame is minded. -/
def TR (M M' : Mem) (n : Nat) (s : St) (b : Nat) (f : Frm) (w wx : World) : Prop := CK wx M' n s ∧ FB wx b f ∧ ¬ M'.owns b ∧ Kept M w wx ∧ Grew w M M'
theorem TR.below {M M' : Mem} {n : Nat} {s : St} {b : Nat} {f : Frm} {w wx wy : World} (h : TR M M' n s b f w wx) (hb : Below wx.heap.size wx wy) : TR M M' n s b f w wy :=
  ⟨h.1.below hb, h.2.1.below hb, h.2.2.1, h.2.2.2.1.trans h.2.2.2.2 (Kept.below hb), h.2.2.2.2⟩
theorem TR.drew {M M' : Mem} {n : Nat} {s : St} {b : Nat} {f : Frm} {w wx : World} (h : TR M M' n s b f w wx) : TR M M' n s b f w wx.drew := h.below (Below.refl _ _).drew
theorem TR.put {M M' : Mem} {n : Nat} {s : St} {b : Nat} {f : Frm} {w wx wy : World} {s' : St} (h : TR M M' n s b f w wx) (hc : CK wy M' n s' ∧ Kept M' wx wy) : TR M M' n s' b f w wy :=
  ⟨hc.1, h.2.1.kept hc.2 h.2.2.1, h.2.2.1, h.2.2.2.1.trans h.2.2.2.2 hc.2, h.2.2.2.2⟩
theorem TR.step {M M' M2 : Mem} {n n' : Nat} {s s' : St} {b : Nat} {f : Frm} {w wx wy : World} (h : TR M M' n s b f w wx) (hc : CK wy M2 n' s') (hk : Kept M' wx wy) (hg : Grew wx M' M2) : TR M M2 n' s' b f w wy :=
  ⟨hc, h.2.1.kept hk h.2.2.1, hg.not h.2.1.lt h.2.2.1, h.2.2.2.1.trans h.2.2.2.2 hk, h.2.2.2.2.trans h.2.2.2.1.size hg⟩

theorem CK.same {w : World} {M : Mem} {n : Nat} {s : St} (h : CK w M n s) {id : Int} {p : Nat} (hp : M.g id = some p) : CK w M n (s.upd id (s.strm id)) := h.setS hp ((h.strm id).1 p hp) (fun _ _ => rfl)
theorem CK.sbU {w : World} {M : Mem} {n : Nat} {s : St} {id : Int} {x : Strm} (h : CK w M n (s.upd id x)) {p : Nat} (hp : M.g id = some p) : SB w p x := by
  have := (h.strm id).1 p hp
  simpa [St.upd] using this
theorem CK.putU {w : World} {M : Mem} {n : Nat} {s : St} {id : Int} {x : Strm} (h : CK w M n (s.upd id x)) {p i : Nat} {v : Value} (hp : M.g id = some p) {y : Strm} (hy : SB (w.setCell ⟨p, i, none⟩ v) p y) :
    CK (w.setCell ⟨p, i, none⟩ v) M n (s.upd id y) ∧ Kept M w (w.setCell ⟨p, i, none⟩ v) := by
  have := h.putS hp hy
  rwa [upd_upd] at this

set_option maxRecDepth 100000 in
set_option maxHeartbeats 8000000 in
theorem told_any {w : World} {M : Mem} {n : Nat} {s : St} (h : CK w M n s) (e : Ev) (he : e.Ok) (hn : n + 1 < maxLen) :
    Calls Try.prog 21 #[.pointer (some ⟨M.B, 0, none⟩), evV e] w (Went M (n + 2) (toldF s e.f) w) := by
  have hh := Lib.hid h
  have hn0 : n < maxLen := by omega
  have hgo := h.going
  have ha := he.f.a
  have hend := end_any e.f
  have hF0 := FB.new (w := w.alloc (.cells #[.int .i64 e.k, .int .i64 e.sp, .int .u64 e.tm, .int .u64 e.num, .int .u64 e.many, .string e.text, .int .u64 e.f.k, .int .u64 e.f.a, .int .u64 e.f.b, .int .u64 e.f.c, .bool e.f.fin, .string e.f.data, .string e.f.more, .slice e.f.la e.f.ln e.f.lc] 38)) (b := w.heap.size + 1) (by simp) e.f 36
  have hfar := h.far (b := w.heap.size + 1) (by omega)
  have hmx : ∀ (w : World) (ts : Array TypeId) (t : TypeId) (x y : Int), (Builtin.max_ ts t #[.int .u64 x, .int .u64 y]).run Try.prog w = .ok (.int .u64 (mx x y)) w := fun w ts t x y => by rw [run_max_int2]; rfl
  have H0 : Hid (toldF s e.f = if e.f.k = 8 ∨ e.f.k = 4 then (askF s e.f).upd e.f.a (finalX (resetX (sentX (s.strm e.f.a) e.f) e.f) e.f) else askF s e.f) := rfl
  have H1 : Hid (askF s e.f = if quietK e.f.k then s else { s with asks := setB s.asks s.gs s.gn }) := rfl
  obtain ⟨-, -, -, c3, c4, -, -, -, -, -, c10, -, -, -, -, -⟩ := h.cells
  have hB : M.B < w.heap.size := World.block_lt_of_cell? _ _ c3
  have hB1 : M.B ≠ w.heap.size := by omega
  have hB2 : M.B ≠ w.heap.size + 1 := by omega
  clear h he
  unfold evV frV at *
  obtain ⟨ek, esp, etm, enum_, emany, etext, fk, fa, fb, fc, ffin, fd, fm, la, ln, lc, rs⟩ := e
  simp only at *
  generalize hen : endF ⟨fk, fa, fb, fc, ffin, fd, fm, la, ln, lc, rs⟩ = en at *
  generalize toldF s ⟨fk, fa, fb, fc, ffin, fd, fm, la, ln, lc, rs⟩ = s' at *
  have H2 := H0.out
  clear H0
  by_cases hq : quietK fk
  · have hk : fk ≠ 8 ∧ fk ≠ 4 := by unfold quietK at hq; omega
    have b8 := bnt hk.1
    have b4 := bnt hk.2
    rw [if_neg (by omega), H1.out, if_pos hq] at H2
    subst H2
    unfold quietK at hq
    rcases hq with rfl | rfl | rfl | rfl | rfl
    all_goals
      go_enter Try.func21, Try.ntmps21
      go_wp2_with fail
      go_end0
      exact ⟨rfl, M.g, ((hh.out.mono (by omega)).alloc _).alloc _, Kept.below (by go_grown), .refl w M⟩
  · rw [H1.out, if_neg hq] at H2
    have hq0 := Lib.hid hq
    unfold quietK at hq
    simp only [not_or] at hq
    obtain ⟨q0, q2, q3, q28, q29⟩ := hq
    have b0 := bnf q0
    have b2 := bnf q2
    have b3 := bnf q3
    have b28 := bnf q28
    have b29 := bnf q29
    have hc1 := ((hh.out.alloc (.cells #[.int .i64 ek, .int .i64 esp, .int .u64 etm, .int .u64 enum_, .int .u64 emany, .string etext, .int .u64 fk, .int .u64 fa, .int .u64 fb, .int .u64 fc, .bool ffin, .string fd, .string fm, .slice la ln lc] 38)).alloc (.cells #[.int .u64 fk, .int .u64 fa, .int .u64 fb, .int .u64 fc, .bool ffin, .string fd, .string fm, .slice la ln lc] 36)).drew
    obtain ⟨w2, hr, hm, ht⟩ := hc1.asks.store Try.underlying49 hgo.1 hgo.2 hn0
    have hA := ck_asks hc1 ht hm
    have hT := Lib.hid (show TR M M (n + 1) { s with asks := setB s.asks s.gs s.gn } (w.heap.size + 1) ⟨fk, fa, fb, fc, ffin, fd, fm, la, ln, lc, rs⟩ w w2 from ⟨hA.1, hF0.drew.kept hA.2 hfar, hfar, (Kept.below (((Below.refl _ w).alloc (Nat.le_refl _) _).alloc (by simp) _).drew).trans1 hA.2, .refl w M⟩)
    clear hm ht hA hc1 hF0 H1
    have hT1 := hT.out.2.1
    obtain ⟨p0, p1, p2, p3, p4, p5, p6, p7⟩ := hT1
    simp only at p0 p1 p2 p3 p4 p5 p6 p7
    by_cases hk : fk = 8 ∨ fk = 4
    · rw [if_pos hk] at H2
      subst H2
      have hsx : ∀ x, x = s.strm fa → True := fun _ _ => trivial
      generalize hs1 : ({ s with asks := setB s.asks s.gs s.gn } : St) = s1 at *
      have hstrm : s1.strm = s.strm := by rw [← hs1]
      rw [← hstrm]
      clear hs1
      rcases hk with rfl | rfl
      · have hx1 := Lib.hid (show sentX (s1.strm fa) ⟨8, fa, fb, fc, ffin, fd, fm, la, ln, lc, rs⟩ = { s1.strm fa with sent := mx (s1.strm fa).sent en } from by rw [← hen]; rfl)
        generalize sentX (s1.strm fa) ⟨8, fa, fb, fc, ffin, fd, fm, la, ln, lc, rs⟩ = x1 at *
        go_enter Try.func21, Try.ntmps21
        go_wp2_with fail
        go_region
        go_upto_region 12 with (go_at_call 23; refine (of_any hT.out.1 ha hn).mono ?_; rintro r w3 ⟨p, g', rfl, hg, hc, hkept, hgrew⟩; have hU := Lib.hid (hT.out.step hc hkept hgrew); have hS := (hc.strm fa).1 p hg; obtain ⟨⟨r0, r1, r2, r3, r4, r5, r6⟩, hfr, -⟩ := hS; have ff1 := hfr 1 (by omega); have hfb := hU.out.2.1; obtain ⟨n0, n1, n2, n3, n4, n5, n6, n7⟩ := hfb; simp only at n0 n1 n2 n3 n4 n5 n6 n7; clear hc hkept hgrew hfr)
        go_cut [] (fun wx => TR M { M with g := g' } (n + 2) (s1.upd fa x1) (w.heap.size + 1) ⟨8, fa, fb, fc, ffin, fd, fm, la, ln, lc, rs⟩ w wx)
        case first =>
          go_region_with (go_at_call 28; refine (hend _).mono ?_; rintro r w4 ⟨rfl, hb⟩; have hV := Lib.hid (hU.out.drew.below hb); have hS2 := Lib.hid ((hV.out.1.strm fa).1 p hg); obtain ⟨⟨-, v1, -⟩, hfr, -⟩ := hS2.out; have vf1 := hfr 1 (by omega); rw [hstrm] at v1; clear hfr hb)
          all_goals
            (try go_wp2_with fail)
            go_meet
            have hx := hx1.out
            have hS3 := hS2.out
            rw [hstrm] at hx hS3
            rw [hx]
            exact hV.out.put (hV.out.1.putS hg (hS3.set1 _))
        case rest =>
        have hC := Lib.hid hcut
        clear hcut r0 r1 r2 r3 r4 r5 r6 ff1 n0 n1 n2 n3 n4 n5 n6 n7
        have hsb := hC.out.1.sbU hg
        obtain ⟨⟨r0, r1, r2, r3, r4, r5, r6⟩, hfr, -⟩ := hsb
        have ff4 := hfr 4 (by omega)
        have hcB := hC.out.2.1
        obtain ⟨n0, n1, n2, n3, n4, n5, n6, n7⟩ := hcB
        simp only at n0 n1 n2 n3 n4 n5 n6 n7
        clear hfr
        have hx2 : Hid (resetX x1 ⟨8, fa, fb, fc, ffin, fd, fm, la, ln, lc, rs⟩ = { x1 with reset := x1.reset || false }) := rfl
        go_upto_region 13 with fail
        go_cut [] (fun wx => TR M { M with g := g' } (n + 2) (s1.upd fa (resetX x1 ⟨8, fa, fb, fc, ffin, fd, fm, la, ln, lc, rs⟩)) (w.heap.size + 1) ⟨8, fa, fb, fc, ffin, fd, fm, la, ln, lc, rs⟩ w wx)
        case first =>
          cases hrs : x1.reset
          all_goals
            rw [hrs] at r4
            go_wp2_with fail
            go_meet
            have hx := hx2.out
            rw [hrs] at hx
            rw [hx]
            exact hC.out.put (hC.out.1.putU hg ((hC.out.1.sbU hg).set4 _))
        case rest =>
          have hD := Lib.hid hcut
          generalize hx2' : resetX x1 ⟨8, fa, fb, fc, ffin, fd, fm, la, ln, lc, rs⟩ = x2 at *
          have hx3 : Hid (finalX x2 ⟨8, fa, fb, fc, ffin, fd, fm, la, ln, lc, rs⟩ = if (!x2.known && (ffin || false)) = true then { x2 with final := en, known := true } else x2) := by
            show _ = _
            rw [← hen]
            rfl
          have hsb := hD.out.1.sbU hg
          clear r0 r1 r2 r3 r4 r5 r6 ff4 n0 n1 n2 n3 n4 n5 n6 n7 hcut
          obtain ⟨⟨r0, r1, r2, r3, r4, r5, r6⟩, hfr, -⟩ := hsb
          have ff2 := hfr 2 (by omega)
          have ff3 := hfr 3 (by omega)
          have hcB := hD.out.2.1
          obtain ⟨n0, n1, n2, n3, n4, n5, n6, n7⟩ := hcB
          simp only at n0 n1 n2 n3 n4 n5 n6 n7
          clear hfr
          cases hkn : x2.known
          all_goals
            rw [hkn] at r3
            cases ffin
            all_goals
              go_wp2_with (go_at_call 28; refine (hend _).mono ?_; rintro r w5 ⟨rfl, hb⟩; have hE := Lib.hid (hD.out.below hb); have hsb := hE.out.1.sbU hg; obtain ⟨⟨r0, r1, r2, r3, r4, r5, r6⟩, hfr, -⟩ := hsb; have ff2 := hfr 2 (by omega); have ff3 := hfr 3 (by omega); clear hfr hb)
              go_end0
              have hx := hx3.out
              rw [hkn] at hx
              simp at hx
              rw [hx]
              first
                | exact ⟨rfl, g', hD.out.1, hD.out.2.2.2⟩
                | (have hG := hE.out.put (hE.out.1.putU hg ((hE.out.1.sbU hg).set2 en))
                   have hI := hG.put (hG.1.putU hg ((hG.1.sbU hg).set3 true))
                   exact ⟨rfl, g', hI.1, hI.2.2.2⟩)
      · have hx1 := Lib.hid (show sentX (s1.strm fa) ⟨4, fa, fb, fc, ffin, fd, fm, la, ln, lc, rs⟩ = s1.strm fa from rfl)
        generalize hxx : sentX (s1.strm fa) ⟨4, fa, fb, fc, ffin, fd, fm, la, ln, lc, rs⟩ = x1 at *
        have hx1' := hx1.out
        clear hx1 hxx
        go_enter Try.func21, Try.ntmps21
        go_wp2_with fail
        go_region
        go_upto_region 13 with (go_at_call 23; refine (of_any hT.out.1 ha hn).mono ?_; rintro r w3 ⟨p, g', rfl, hg, hc, hkept, hgrew⟩; have hC := Lib.hid ((hT.out.step (hc.same hg) hkept hgrew) : TR M { M with g := g' } (n + 2) (s1.upd fa (s1.strm fa)) _ _ _ _); have hS := (hc.strm fa).1 p hg; obtain ⟨⟨r0, r1, r2, r3, r4, r5, r6⟩, hfr, -⟩ := hS; have ff1 := hfr 1 (by omega); have hfb := hC.out.2.1; obtain ⟨n0, n1, n2, n3, n4, n5, n6, n7⟩ := hfb; simp only at n0 n1 n2 n3 n4 n5 n6 n7; clear hc hkept hgrew hfr)
        rw [← hx1'] at hC
        clear r0 r1 r2 r3 r4 r5 r6 ff1 n0 n1 n2 n3 n4 n5 n6 n7
        have hsb := hC.out.1.sbU hg
        obtain ⟨⟨r0, r1, r2, r3, r4, r5, r6⟩, hfr, -⟩ := hsb
        have ff4 := hfr 4 (by omega)
        have hcB := hC.out.2.1
        obtain ⟨n0, n1, n2, n3, n4, n5, n6, n7⟩ := hcB
        simp only at n0 n1 n2 n3 n4 n5 n6 n7
        clear hfr
        have hx2 : Hid (resetX x1 ⟨4, fa, fb, fc, ffin, fd, fm, la, ln, lc, rs⟩ = { x1 with reset := x1.reset || true }) := rfl
        go_upto_region 13 with fail
        go_cut [] (fun wx => TR M { M with g := g' } (n + 2) (s1.upd fa (resetX x1 ⟨4, fa, fb, fc, ffin, fd, fm, la, ln, lc, rs⟩)) (w.heap.size + 1) ⟨4, fa, fb, fc, ffin, fd, fm, la, ln, lc, rs⟩ w wx)
        case first =>
          cases hrs : x1.reset
          all_goals
            rw [hrs] at r4
            go_wp2_with fail
            go_meet
            have hx := hx2.out
            rw [hrs] at hx
            rw [hx]
            exact hC.out.put (hC.out.1.putU hg ((hC.out.1.sbU hg).set4 _))
        case rest =>
          have hD := Lib.hid hcut
          generalize hx2' : resetX x1 ⟨4, fa, fb, fc, ffin, fd, fm, la, ln, lc, rs⟩ = x2 at *
          have hx3 : Hid (finalX x2 ⟨4, fa, fb, fc, ffin, fd, fm, la, ln, lc, rs⟩ = if (!x2.known && (ffin || true)) = true then { x2 with final := en, known := true } else x2) := by
            show _ = _
            rw [← hen]
            rfl
          have hsb := hD.out.1.sbU hg
          clear r0 r1 r2 r3 r4 r5 r6 ff4 n0 n1 n2 n3 n4 n5 n6 n7 hcut
          obtain ⟨⟨r0, r1, r2, r3, r4, r5, r6⟩, hfr, -⟩ := hsb
          have ff2 := hfr 2 (by omega)
          have ff3 := hfr 3 (by omega)
          have hcB := hD.out.2.1
          obtain ⟨n0, n1, n2, n3, n4, n5, n6, n7⟩ := hcB
          simp only at n0 n1 n2 n3 n4 n5 n6 n7
          clear hfr
          cases hkn : x2.known
          all_goals
            rw [hkn] at r3
            cases ffin
            all_goals
              go_wp2_with (go_at_call 28; refine (hend _).mono ?_; rintro r w5 ⟨rfl, hb⟩; have hE := Lib.hid (hD.out.below hb); have hsb := hE.out.1.sbU hg; obtain ⟨⟨r0, r1, r2, r3, r4, r5, r6⟩, hfr, -⟩ := hsb; have ff2 := hfr 2 (by omega); have ff3 := hfr 3 (by omega); clear hfr hb)
              go_end0
              have hx := hx3.out
              rw [hkn] at hx
              simp at hx
              rw [hx]
              first
                | exact ⟨rfl, g', hD.out.1, hD.out.2.2.2⟩
                | (have hG := hE.out.put (hE.out.1.putU hg ((hE.out.1.sbU hg).set2 en))
                   have hI := hG.put (hG.1.putU hg ((hG.1.sbU hg).set3 true))
                   exact ⟨rfl, g', hI.1, hI.2.2.2⟩)
    · rw [if_neg hk] at H2
      subst H2
      simp only [not_or] at hk
      obtain ⟨k8, k4⟩ := hk
      have b8 := bnt k8
      have b4 := bnt k4
      go_enter Try.func21, Try.ntmps21
      go_wp2_with fail
      go_region
      all_goals
        (try go_wp2_with fail)
        go_end0
        exact ⟨rfl, M.g, hT.out.1.mono (by omega), hT.out.2.2.2⟩
end Go.Proofs.Ytiefkpfjmbifcaa

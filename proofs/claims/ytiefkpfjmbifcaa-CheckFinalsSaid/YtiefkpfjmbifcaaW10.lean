/-
  The least rule from 7 on that a frame that goes breaks: the walk.
-/
import Derived.Test.YtiefkpfjmbifcaaW6
import Derived.Test.YtiefkpfjmbifcaaW9
namespace Go.Proofs.Ytiefkpfjmbifcaa
open Go.RowKit Go.Maps

def firstK (k : Int) : Prop := k = 1 ∨ k = 2 ∨ k = 6 ∨ k = 28 ∨ k = 29
instance (k : Int) : Decidable (firstK k) := by unfold firstK; infer_instance
noncomputable def frameF (s : St) (e : Ev) : Int :=
  if e.sp = 0 ∧ ¬ firstK e.f.k then 7
  else if (e.f.k = 2 ∨ e.f.k = 3) ∧ cameF s e.sp e.f.ln e.f.rs = false then 8
  else if e.f.k = 8 ∨ e.f.k = 4 then bytesF s e.f else 0
/-- What is known while a frame is looked at. -/
def FR (M : Mem) (n : Nat) (s : St) (e : Ev) (w wx : World) : Prop := CK wx M n s ∧ EVB wx w.heap.size e ∧ FB wx (w.heap.size + 1) e.f ∧ Below w.heap.size w wx
theorem FR.below {M : Mem} {n : Nat} {s : St} {e : Ev} {w wx wy : World} (h : FR M n s e w wx) (hb : Below wx.heap.size wx wy) : FR M n s e w wy :=
  ⟨h.1.below hb, h.2.1.below hb, h.2.2.1.below hb, next2 hb h.2.2.2⟩
set_option maxRecDepth 100000 in
set_option maxHeartbeats 8000000 in
theorem frame_any {w : World} {M : Mem} {n : Nat} {s : St} (h : CK w M n s) (e : Ev) (he : e.Ok) (hn : n + 1 < maxLen) {B0 : Nat} (hB0 : B0 ≤ w.heap.size) (hr : Rng w B0 e.f.la e.f.ln e.f.rs) :
    Calls Try.prog 18 #[.pointer (some ⟨M.B, 0, none⟩), evV e] w (Told M (n + 2) s (.int .i64 (frameF s e)) w) := by
  have hh := Lib.hid h
  have hsp := he.sp
  have hfok := he.f
  have hln := he.f.n
  have hcl := closing_any e.f
  have hby := fun (w : World) (h : CK w M n s) => bytes_any h e.f he.f hn
  have hE0 := EVB.new (w := w) (b := w.heap.size) rfl e 38
  have hF0 := FB.new (w := w.alloc (.cells #[.int .i64 e.k, .int .i64 e.sp, .int .u64 e.tm, .int .u64 e.num, .int .u64 e.many, .string e.text, .int .u64 e.f.k, .int .u64 e.f.a, .int .u64 e.f.b, .int .u64 e.f.c, .bool e.f.fin, .string e.f.data, .string e.f.more, .slice e.f.la e.f.ln e.f.lc] 38)) (b := w.heap.size + 1) (by simp) e.f 36
  have H0 : Hid (frameF s e = if e.sp = 0 ∧ ¬ firstK e.f.k then 7 else if (e.f.k = 2 ∨ e.f.k = 3) ∧ cameF s e.sp e.f.ln e.f.rs = false then 8 else if e.f.k = 8 ∨ e.f.k = 4 then bytesF s e.f else 0) := rfl
  have HC : Hid (closingF e.f = (e.f.k == 28 || e.f.k == 29)) := rfl
  clear h he
  have hby0 := Lib.hid hby
  clear hby
  unfold evV frV at *
  obtain ⟨ek, esp, etm, enum_, emany, etext, fk, fa, fb, fc, ffin, fd, fm, la, ln, lc, rs⟩ := e
  simp only at *
  generalize hval : frameF s ⟨ek, esp, etm, enum_, emany, etext, fk, fa, fb, fc, ffin, fd, fm, la, ln, lc, rs⟩ = v at *
  generalize hclF : closingF ⟨fk, fa, fb, fc, ffin, fd, fm, la, ln, lc, rs⟩ = cl at *
  generalize hbyF : bytesF s ⟨fk, fa, fb, fc, ffin, fd, fm, la, ln, lc, rs⟩ = by_ at *
  have hA := Lib.hid (show FR M n s ⟨ek, esp, etm, enum_, emany, etext, fk, fa, fb, fc, ffin, fd, fm, la, ln, lc, rs⟩ w ((w.alloc (.cells #[.int .i64 ek, .int .i64 esp, .int .u64 etm, .int .u64 enum_, .int .u64 emany, .string etext, .int .u64 fk, .int .u64 fa, .int .u64 fb, .int .u64 fc, .bool ffin, .string fd, .string fm, .slice la ln lc] 38)).alloc (.cells #[.int .u64 fk, .int .u64 fa, .int .u64 fb, .int .u64 fc, .bool ffin, .string fd, .string fm, .slice la ln lc] 36)) from ⟨(hh.out.alloc _).alloc _, hE0.below ((Below.refl _ _).alloc (Nat.le_refl _) _), hF0, ((Below.refl _ w).alloc (Nat.le_refl _) _).alloc (by simp) _⟩)
  have hv := H0.out
  clear H0 hE0 hF0 hval hbyF
  have hcm := fun (wx : World) (hb : Below w.heap.size w wx) (hc : CK wx M n s) => came_any hc esp hsp la ln lc rs (B0 := B0) (Nat.le_trans hB0 hb.size) (hr.below (hb.mono hB0)) hln
  have hcm0 := Lib.hid hcm
  clear hcm hr
  rcases (show fk = 1 ∨ fk = 6 ∨ fk = 2 ∨ fk = 28 ∨ fk = 29 ∨ fk = 3 ∨ fk = 8 ∨ fk = 4 ∨ (fk ≠ 1 ∧ fk ≠ 6 ∧ fk ≠ 2 ∧ fk ≠ 28 ∧ fk ≠ 29 ∧ fk ≠ 3 ∧ fk ≠ 8 ∧ fk ≠ 4) from by omega) with rfl | rfl | rfl | rfl | rfl | rfl | rfl | rfl | ⟨k1, k6, k2, k28, k29, k3, k8, k4⟩
  · -- 1
    rw [if_neg (by simp [firstK]), if_neg (by simp), if_neg (by simp)] at hv
    subst hv
    by_cases hs0 : esp = 0
    · subst hs0
      go_enter Try.func18, Try.ntmps18
      go_wp2_with fail
      go_ret
      exact ⟨rfl, M.g, hA.out.1.mono (by omega), Kept.below hA.out.2.2.2, .refl w M⟩
    · have hs1 := bnf hs0
      go_enter Try.func18, Try.ntmps18
      go_wp2_with fail
      go_ret
      exact ⟨rfl, M.g, hA.out.1.mono (by omega), Kept.below hA.out.2.2.2, .refl w M⟩
  · -- 6
    rw [if_neg (by simp [firstK]), if_neg (by simp), if_neg (by simp)] at hv
    subst hv
    by_cases hs0 : esp = 0
    · subst hs0
      go_enter Try.func18, Try.ntmps18
      go_wp2_with fail
      go_ret
      exact ⟨rfl, M.g, hA.out.1.mono (by omega), Kept.below hA.out.2.2.2, .refl w M⟩
    · have hs1 := bnf hs0
      go_enter Try.func18, Try.ntmps18
      go_wp2_with fail
      go_ret
      exact ⟨rfl, M.g, hA.out.1.mono (by omega), Kept.below hA.out.2.2.2, .refl w M⟩
  · -- 2
    by_cases hs0 : esp = 0
    · subst hs0
      cases hc : cameF s 0 ln rs
      · rw [hc, if_neg (by simp [firstK]), if_pos (by simp)] at hv
        subst hv
        rw [hc] at hcm0
        clear hc
        go_enter Try.func18, Try.ntmps18
        go_wp2_with (go_at_call 26; refine (hcm0.out _ hA.out.2.2.2 hA.out.1).mono ?_; rintro r w2 ⟨rfl, hb1⟩; have hY := Lib.hid (hA.out.below hb1); obtain ⟨e0, e1, e2, e3, e4, e5, e6, e7, e8, e9, e10, e11, e12, e13⟩ := hY.out.2.1; obtain ⟨f0, f1, f2, f3, f4, f5, f6, f7⟩ := hY.out.2.2.1; simp only at e0 e1 e2 e3 e4 e5 e6 e7 e8 e9 e10 e11 e12 e13 f0 f1 f2 f3 f4 f5 f6 f7; clear hb1)
        go_ret
        exact ⟨rfl, M.g, hY.out.1.mono (by omega), Kept.below hY.out.2.2.2, .refl w M⟩
      · rw [hc, if_neg (by simp [firstK]), if_neg (by simp), if_neg (by simp)] at hv
        subst hv
        rw [hc] at hcm0
        clear hc
        go_enter Try.func18, Try.ntmps18
        go_wp2_with (go_at_call 26; refine (hcm0.out _ hA.out.2.2.2 hA.out.1).mono ?_; rintro r w2 ⟨rfl, hb1⟩; have hY := Lib.hid (hA.out.below hb1); obtain ⟨e0, e1, e2, e3, e4, e5, e6, e7, e8, e9, e10, e11, e12, e13⟩ := hY.out.2.1; obtain ⟨f0, f1, f2, f3, f4, f5, f6, f7⟩ := hY.out.2.2.1; simp only at e0 e1 e2 e3 e4 e5 e6 e7 e8 e9 e10 e11 e12 e13 f0 f1 f2 f3 f4 f5 f6 f7; clear hb1)
        go_ret
        exact ⟨rfl, M.g, hY.out.1.mono (by omega), Kept.below hY.out.2.2.2, .refl w M⟩
    · have hs1 := bnf hs0
      cases hc : cameF s esp ln rs
      · rw [hc, if_neg (by simp [firstK]), if_pos (by simp)] at hv
        subst hv
        rw [hc] at hcm0
        clear hc
        go_enter Try.func18, Try.ntmps18
        go_wp2_with (go_at_call 26; refine (hcm0.out _ hA.out.2.2.2 hA.out.1).mono ?_; rintro r w2 ⟨rfl, hb1⟩; have hY := Lib.hid (hA.out.below hb1); obtain ⟨e0, e1, e2, e3, e4, e5, e6, e7, e8, e9, e10, e11, e12, e13⟩ := hY.out.2.1; obtain ⟨f0, f1, f2, f3, f4, f5, f6, f7⟩ := hY.out.2.2.1; simp only at e0 e1 e2 e3 e4 e5 e6 e7 e8 e9 e10 e11 e12 e13 f0 f1 f2 f3 f4 f5 f6 f7; clear hb1)
        go_ret
        exact ⟨rfl, M.g, hY.out.1.mono (by omega), Kept.below hY.out.2.2.2, .refl w M⟩
      · rw [hc, if_neg (by simp [firstK]), if_neg (by simp), if_neg (by simp)] at hv
        subst hv
        rw [hc] at hcm0
        clear hc
        go_enter Try.func18, Try.ntmps18
        go_wp2_with (go_at_call 26; refine (hcm0.out _ hA.out.2.2.2 hA.out.1).mono ?_; rintro r w2 ⟨rfl, hb1⟩; have hY := Lib.hid (hA.out.below hb1); obtain ⟨e0, e1, e2, e3, e4, e5, e6, e7, e8, e9, e10, e11, e12, e13⟩ := hY.out.2.1; obtain ⟨f0, f1, f2, f3, f4, f5, f6, f7⟩ := hY.out.2.2.1; simp only at e0 e1 e2 e3 e4 e5 e6 e7 e8 e9 e10 e11 e12 e13 f0 f1 f2 f3 f4 f5 f6 f7; clear hb1)
        go_ret
        exact ⟨rfl, M.g, hY.out.1.mono (by omega), Kept.below hY.out.2.2.2, .refl w M⟩
  · -- 28
    rw [if_neg (by simp [firstK]), if_neg (by simp), if_neg (by simp)] at hv
    subst hv
    have hcl2 := HC.out
    simp at hcl2
    subst hcl2
    by_cases hs0 : esp = 0
    · subst hs0
      go_enter Try.func18, Try.ntmps18
      go_wp2_with (go_at_call 25; refine (hcl _).mono ?_; rintro r w1 ⟨rfl, hb1⟩; have hX := Lib.hid (hA.out.below hb1); obtain ⟨e0, e1, e2, e3, e4, e5, e6, e7, e8, e9, e10, e11, e12, e13⟩ := hX.out.2.1; obtain ⟨f0, f1, f2, f3, f4, f5, f6, f7⟩ := hX.out.2.2.1; simp only at e0 e1 e2 e3 e4 e5 e6 e7 e8 e9 e10 e11 e12 e13 f0 f1 f2 f3 f4 f5 f6 f7; clear hb1)
      go_ret
      exact ⟨rfl, M.g, hX.out.1.mono (by omega), Kept.below hX.out.2.2.2, .refl w M⟩
    · have hs1 := bnf hs0
      go_enter Try.func18, Try.ntmps18
      go_wp2_with (go_at_call 25; refine (hcl _).mono ?_; rintro r w1 ⟨rfl, hb1⟩; have hX := Lib.hid (hA.out.below hb1); obtain ⟨e0, e1, e2, e3, e4, e5, e6, e7, e8, e9, e10, e11, e12, e13⟩ := hX.out.2.1; obtain ⟨f0, f1, f2, f3, f4, f5, f6, f7⟩ := hX.out.2.2.1; simp only at e0 e1 e2 e3 e4 e5 e6 e7 e8 e9 e10 e11 e12 e13 f0 f1 f2 f3 f4 f5 f6 f7; clear hb1)
      go_ret
      exact ⟨rfl, M.g, hX.out.1.mono (by omega), Kept.below hX.out.2.2.2, .refl w M⟩
  · -- 29
    rw [if_neg (by simp [firstK]), if_neg (by simp), if_neg (by simp)] at hv
    subst hv
    have hcl2 := HC.out
    simp at hcl2
    subst hcl2
    by_cases hs0 : esp = 0
    · subst hs0
      go_enter Try.func18, Try.ntmps18
      go_wp2_with (go_at_call 25; refine (hcl _).mono ?_; rintro r w1 ⟨rfl, hb1⟩; have hX := Lib.hid (hA.out.below hb1); obtain ⟨e0, e1, e2, e3, e4, e5, e6, e7, e8, e9, e10, e11, e12, e13⟩ := hX.out.2.1; obtain ⟨f0, f1, f2, f3, f4, f5, f6, f7⟩ := hX.out.2.2.1; simp only at e0 e1 e2 e3 e4 e5 e6 e7 e8 e9 e10 e11 e12 e13 f0 f1 f2 f3 f4 f5 f6 f7; clear hb1)
      go_ret
      exact ⟨rfl, M.g, hX.out.1.mono (by omega), Kept.below hX.out.2.2.2, .refl w M⟩
    · have hs1 := bnf hs0
      go_enter Try.func18, Try.ntmps18
      go_wp2_with (go_at_call 25; refine (hcl _).mono ?_; rintro r w1 ⟨rfl, hb1⟩; have hX := Lib.hid (hA.out.below hb1); obtain ⟨e0, e1, e2, e3, e4, e5, e6, e7, e8, e9, e10, e11, e12, e13⟩ := hX.out.2.1; obtain ⟨f0, f1, f2, f3, f4, f5, f6, f7⟩ := hX.out.2.2.1; simp only at e0 e1 e2 e3 e4 e5 e6 e7 e8 e9 e10 e11 e12 e13 f0 f1 f2 f3 f4 f5 f6 f7; clear hb1)
      go_ret
      exact ⟨rfl, M.g, hX.out.1.mono (by omega), Kept.below hX.out.2.2.2, .refl w M⟩
  · -- 3
    have hcl2 := HC.out
    simp at hcl2
    subst hcl2
    by_cases hs0 : esp = 0
    · subst hs0
      rw [if_pos (by simp [firstK])] at hv
      subst hv
      go_enter Try.func18, Try.ntmps18
      go_wp2_with (go_at_call 25; refine (hcl _).mono ?_; rintro r w1 ⟨rfl, hb1⟩; have hX := Lib.hid (hA.out.below hb1); obtain ⟨e0, e1, e2, e3, e4, e5, e6, e7, e8, e9, e10, e11, e12, e13⟩ := hX.out.2.1; obtain ⟨f0, f1, f2, f3, f4, f5, f6, f7⟩ := hX.out.2.2.1; simp only at e0 e1 e2 e3 e4 e5 e6 e7 e8 e9 e10 e11 e12 e13 f0 f1 f2 f3 f4 f5 f6 f7; clear hb1)
      go_ret
      exact ⟨rfl, M.g, hX.out.1.mono (by omega), Kept.below hX.out.2.2.2, .refl w M⟩
    · have hs1 := bnf hs0
      cases hc : cameF s esp ln rs
      · rw [hc, if_neg (by simp [hs0]), if_pos (by simp)] at hv
        subst hv
        rw [hc] at hcm0
        clear hc
        go_enter Try.func18, Try.ntmps18
        go_wp2_with (first | (go_at_call 25; refine (hcl _).mono ?_; rintro r w1 ⟨rfl, hb1⟩; have hX := Lib.hid (hA.out.below hb1); obtain ⟨e0, e1, e2, e3, e4, e5, e6, e7, e8, e9, e10, e11, e12, e13⟩ := hX.out.2.1; obtain ⟨f0, f1, f2, f3, f4, f5, f6, f7⟩ := hX.out.2.2.1; simp only at e0 e1 e2 e3 e4 e5 e6 e7 e8 e9 e10 e11 e12 e13 f0 f1 f2 f3 f4 f5 f6 f7; clear hb1) | (go_at_call 26; refine (hcm0.out _ hX.out.2.2.2 hX.out.1).mono ?_; rintro r w2 ⟨rfl, hb1⟩; have hY := Lib.hid (hX.out.below hb1); obtain ⟨e0, e1, e2, e3, e4, e5, e6, e7, e8, e9, e10, e11, e12, e13⟩ := hY.out.2.1; obtain ⟨f0, f1, f2, f3, f4, f5, f6, f7⟩ := hY.out.2.2.1; simp only at e0 e1 e2 e3 e4 e5 e6 e7 e8 e9 e10 e11 e12 e13 f0 f1 f2 f3 f4 f5 f6 f7; clear hb1))
        go_ret
        exact ⟨rfl, M.g, hY.out.1.mono (by omega), Kept.below hY.out.2.2.2, .refl w M⟩
      · rw [hc, if_neg (by simp [hs0]), if_neg (by simp), if_neg (by simp)] at hv
        subst hv
        rw [hc] at hcm0
        clear hc
        go_enter Try.func18, Try.ntmps18
        go_wp2_with (first | (go_at_call 25; refine (hcl _).mono ?_; rintro r w1 ⟨rfl, hb1⟩; have hX := Lib.hid (hA.out.below hb1); obtain ⟨e0, e1, e2, e3, e4, e5, e6, e7, e8, e9, e10, e11, e12, e13⟩ := hX.out.2.1; obtain ⟨f0, f1, f2, f3, f4, f5, f6, f7⟩ := hX.out.2.2.1; simp only at e0 e1 e2 e3 e4 e5 e6 e7 e8 e9 e10 e11 e12 e13 f0 f1 f2 f3 f4 f5 f6 f7; clear hb1) | (go_at_call 26; refine (hcm0.out _ hX.out.2.2.2 hX.out.1).mono ?_; rintro r w2 ⟨rfl, hb1⟩; have hY := Lib.hid (hX.out.below hb1); obtain ⟨e0, e1, e2, e3, e4, e5, e6, e7, e8, e9, e10, e11, e12, e13⟩ := hY.out.2.1; obtain ⟨f0, f1, f2, f3, f4, f5, f6, f7⟩ := hY.out.2.2.1; simp only at e0 e1 e2 e3 e4 e5 e6 e7 e8 e9 e10 e11 e12 e13 f0 f1 f2 f3 f4 f5 f6 f7; clear hb1))
        go_ret
        exact ⟨rfl, M.g, hY.out.1.mono (by omega), Kept.below hY.out.2.2.2, .refl w M⟩
  · -- 8
    have hcl2 := HC.out
    simp at hcl2
    subst hcl2
    by_cases hs0 : esp = 0
    · subst hs0
      rw [if_pos (by simp [firstK])] at hv
      subst hv
      go_enter Try.func18, Try.ntmps18
      go_wp2_with (go_at_call 25; refine (hcl _).mono ?_; rintro r w1 ⟨rfl, hb1⟩; have hX := Lib.hid (hA.out.below hb1); obtain ⟨e0, e1, e2, e3, e4, e5, e6, e7, e8, e9, e10, e11, e12, e13⟩ := hX.out.2.1; obtain ⟨f0, f1, f2, f3, f4, f5, f6, f7⟩ := hX.out.2.2.1; simp only at e0 e1 e2 e3 e4 e5 e6 e7 e8 e9 e10 e11 e12 e13 f0 f1 f2 f3 f4 f5 f6 f7; clear hb1)
      go_ret
      exact ⟨rfl, M.g, hX.out.1.mono (by omega), Kept.below hX.out.2.2.2, .refl w M⟩
    · have hs1 := bnf hs0
      rw [if_neg (by simp [hs0]), if_neg (by simp), if_pos (by simp)] at hv
      subst hv
      go_enter Try.func18, Try.ntmps18
      go_wp2_with (first | (go_at_call 25; refine (hcl _).mono ?_; rintro r w1 ⟨rfl, hb1⟩; have hX := Lib.hid (hA.out.below hb1); obtain ⟨e0, e1, e2, e3, e4, e5, e6, e7, e8, e9, e10, e11, e12, e13⟩ := hX.out.2.1; obtain ⟨f0, f1, f2, f3, f4, f5, f6, f7⟩ := hX.out.2.2.1; simp only at e0 e1 e2 e3 e4 e5 e6 e7 e8 e9 e10 e11 e12 e13 f0 f1 f2 f3 f4 f5 f6 f7; clear hb1) | (go_at_call 27; refine (hby0.out _ hX.out.1).mono ?_; rintro r w3 ⟨rfl, g', hg⟩; have hZ := Lib.hid (known hX.out.2.2.2 hg); clear hg))
      go_ret
      exact ⟨rfl, g', hZ.out⟩
  · -- 4
    have hcl2 := HC.out
    simp at hcl2
    subst hcl2
    by_cases hs0 : esp = 0
    · subst hs0
      rw [if_pos (by simp [firstK])] at hv
      subst hv
      go_enter Try.func18, Try.ntmps18
      go_wp2_with (go_at_call 25; refine (hcl _).mono ?_; rintro r w1 ⟨rfl, hb1⟩; have hX := Lib.hid (hA.out.below hb1); obtain ⟨e0, e1, e2, e3, e4, e5, e6, e7, e8, e9, e10, e11, e12, e13⟩ := hX.out.2.1; obtain ⟨f0, f1, f2, f3, f4, f5, f6, f7⟩ := hX.out.2.2.1; simp only at e0 e1 e2 e3 e4 e5 e6 e7 e8 e9 e10 e11 e12 e13 f0 f1 f2 f3 f4 f5 f6 f7; clear hb1)
      go_ret
      exact ⟨rfl, M.g, hX.out.1.mono (by omega), Kept.below hX.out.2.2.2, .refl w M⟩
    · have hs1 := bnf hs0
      rw [if_neg (by simp [hs0]), if_neg (by simp), if_pos (by simp)] at hv
      subst hv
      go_enter Try.func18, Try.ntmps18
      go_wp2_with (first | (go_at_call 25; refine (hcl _).mono ?_; rintro r w1 ⟨rfl, hb1⟩; have hX := Lib.hid (hA.out.below hb1); obtain ⟨e0, e1, e2, e3, e4, e5, e6, e7, e8, e9, e10, e11, e12, e13⟩ := hX.out.2.1; obtain ⟨f0, f1, f2, f3, f4, f5, f6, f7⟩ := hX.out.2.2.1; simp only at e0 e1 e2 e3 e4 e5 e6 e7 e8 e9 e10 e11 e12 e13 f0 f1 f2 f3 f4 f5 f6 f7; clear hb1) | (go_at_call 27; refine (hby0.out _ hX.out.1).mono ?_; rintro r w3 ⟨rfl, g', hg⟩; have hZ := Lib.hid (known hX.out.2.2.2 hg); clear hg))
      go_ret
      exact ⟨rfl, g', hZ.out⟩
  · -- other
    have c1 := bnf k1
    have c6 := bnf k6
    have c2 := bnf k2
    have c28 := bnf k28
    have c29 := bnf k29
    have c3 := bnf k3
    have c8 := bnf k8
    have c4 := bnf k4
    have hcl2 := HC.out
    have hcl3 : cl = false := by rw [hcl2]; simp [k28, k29]
    clear hcl2
    subst hcl3
    have hnf : ¬ firstK fk := by unfold firstK; omega
    by_cases hs0 : esp = 0
    · subst hs0
      rw [if_pos ⟨rfl, hnf⟩] at hv
      subst hv
      clear hnf
      go_enter Try.func18, Try.ntmps18
      go_wp2_with (go_at_call 25; refine (hcl _).mono ?_; rintro r w1 ⟨rfl, hb1⟩; have hX := Lib.hid (hA.out.below hb1); obtain ⟨e0, e1, e2, e3, e4, e5, e6, e7, e8, e9, e10, e11, e12, e13⟩ := hX.out.2.1; obtain ⟨f0, f1, f2, f3, f4, f5, f6, f7⟩ := hX.out.2.2.1; simp only at e0 e1 e2 e3 e4 e5 e6 e7 e8 e9 e10 e11 e12 e13 f0 f1 f2 f3 f4 f5 f6 f7; clear hb1)
      go_ret
      exact ⟨rfl, M.g, hX.out.1.mono (by omega), Kept.below hX.out.2.2.2, .refl w M⟩
    · have hs1 := bnf hs0
      rw [if_neg (by simp [hs0]), if_neg (by simp [k2, k3]), if_neg (by simp [k8, k4])] at hv
      subst hv
      clear hnf
      go_enter Try.func18, Try.ntmps18
      go_wp2_with (go_at_call 25; refine (hcl _).mono ?_; rintro r w1 ⟨rfl, hb1⟩; have hX := Lib.hid (hA.out.below hb1); obtain ⟨e0, e1, e2, e3, e4, e5, e6, e7, e8, e9, e10, e11, e12, e13⟩ := hX.out.2.1; obtain ⟨f0, f1, f2, f3, f4, f5, f6, f7⟩ := hX.out.2.2.1; simp only at e0 e1 e2 e3 e4 e5 e6 e7 e8 e9 e10 e11 e12 e13 f0 f1 f2 f3 f4 f5 f6 f7; clear hb1)
      go_ret
      exact ⟨rfl, M.g, hX.out.1.mono (by omega), Kept.below hX.out.2.2.2, .refl w M⟩
end Go.Proofs.Ytiefkpfjmbifcaa

/-
  What is minded of an event that broke no rule: the walk.
-/
import Derived.Test.YtiefkpfjmbifcaaW12
namespace Go.Proofs.Ytiefkpfjmbifcaa
open Go.RowKit Go.Maps

theorem next_ck {w : World} {M : Mem} {n : Nat} {s : St} (h : CK w M n s) : Calls Try.prog 20 #[.pointer (some ⟨M.B, 0, none⟩)] w fun r w' => r = .returned (.tuple #[]) ∧ CK w' M n (nextF s) ∧ Kept M w w' := by
  obtain ⟨k0, k1, k2, k3, k4, k5, k6, -⟩ := h.cells
  refine (next_any M.B s.left s.stage w k5 k6 (h.free 6 (by omega))).mono ?_
  rintro r w' ⟨rfl, rfl⟩
  refine ⟨rfl, ?_⟩
  unfold nextF
  split
  · rename_i e
    exact h.put_stage 2
  · exact ⟨h, Kept.refl M w⟩
theorem w2b {w : World} (o o' : Obj) : Below w.heap.size w ((w.alloc o).alloc o') := ((Below.refl _ w).alloc (Nat.le_refl _) _).alloc (by simp) _
theorem went {w wx wy : World} {M M' : Mem} {n : Nat} {s : St} (hk : Kept M w wx) (h : CK wy M' n s ∧ Kept M wx wy ∧ Grew wx M M') : CK wy M' n s ∧ Kept M w wy ∧ Grew w M M' := ⟨h.1, hk.trans1 h.2.1, (Grew.refl w M).trans hk.size h.2.2⟩
set_option maxRecDepth 100000 in
set_option maxHeartbeats 16000000 in
theorem learn_any {N : ByteArray → Nat → Int} (hN : NumsOk N) {w : World} {M : Mem} {n : Nat} {s : St} (h : CK w M n s) (e : Ev) (he : e.Ok) (hn : n + 2 < maxLen) :
    Calls Try.prog 13 #[.pointer (some ⟨M.B, 0, none⟩), evV e] w (Went M (n + 3) (learnF N s e) w) := by
  have hh := Lib.hid h
  have hsp := he.sp
  have hnu := he.num
  have htx := he.text
  have hn0 : n < maxLen := by omega
  have htold := Lib.hid (fun (wx : World) (n' : Nat) (st : St) (h : CK wx M n' st) (hn' : n' + 1 < maxLen) => told_any h e he hn')
  have hheard := Lib.hid (fun (wx : World) (n' : Nat) (st : St) (h : CK wx M n' st) (hn' : n' < maxLen) => heard_any h e.f he.f hn')
  have hE0 := Lib.hid (fun (wx : World) => EVB.new (w := wx) (b := wx.heap.size) rfl e 38)
  have H0 : Hid (learnF N s e = if e.k = 3 then { s with clock := e.num }
  else if e.k = 14 then { s with state := e.num }
  else if e.k = 5 then nextF { s with sent := setU s.sent e.sp (IntKind.u64.wrap (s.sent e.sp + 1)), gs := e.sp, gn := e.num, left := e.many, stage := 1 }
  else if e.k = 8 then toldF (leftF s) e.f
  else if e.k = 4 then { s with stage := 3 }
  else if e.k = 12 then { s with stage := 0 }
  else if e.k = 6 then { s with got := setB s.got e.sp e.num, coming := e.sp, rest := e.many }
  else if e.k = 9 then heardF { s with rest := IntKind.u64.wrap (s.rest - 1) } e.f
  else if e.k = 11 ∨ e.k = 10 then { s with settled := setB s.settled e.sp e.num }
  else if e.k = 13 then s.upd e.num { s.strm e.num with moved := IntKind.u64.wrap ((s.strm e.num).moved + e.many) }
  else if e.k = 15 then { s with lim := N e.text } else s) := rfl
  obtain ⟨-, k1, k2, k3, k4, k5, k6, k7, k8, k9, k10, k11, k12, ⟨k13, k14, k15, k16, k17, k18, k19, k20, k21, k22⟩, -, -⟩ := h.cells
  have hfr := h.free
  have ff1 := hfr 1 (by omega)
  have ff2 := hfr 2 (by omega)
  have ff3 := hfr 3 (by omega)
  have ff4 := hfr 4 (by omega)
  have ff5 := hfr 5 (by omega)
  have ff6 := hfr 6 (by omega)
  have ff7 := hfr 7 (by omega)
  have ff8 := hfr 8 (by omega)
  have hB : M.B < w.heap.size := World.block_lt_of_cell? _ _ k1
  have hB1 : M.B ≠ w.heap.size := by omega
  have hB2 : M.B ≠ w.heap.size + 1 := by omega
  have hfr0 := Lib.hid hfr
  clear h he hfr
  unfold evV frV at *
  obtain ⟨ek, esp, etm, enum_, emany, etext, fk, fa, fb, fc, ffin, fd, fm, la, ln, lc, rs⟩ := e
  simp only at *
  generalize learnF N s ⟨ek, esp, etm, enum_, emany, etext, fk, fa, fb, fc, ffin, fd, fm, la, ln, lc, rs⟩ = v at *
  have hv := H0.out
  clear H0
  rcases (show ek = 3 ∨ ek = 14 ∨ ek = 5 ∨ ek = 8 ∨ ek = 4 ∨ ek = 12 ∨ ek = 6 ∨ ek = 9 ∨ ek = 11 ∨ ek = 10 ∨ ek = 13 ∨ ek = 15 ∨ (ek ≠ 3 ∧ ek ≠ 14 ∧ ek ≠ 5 ∧ ek ≠ 8 ∧ ek ≠ 4 ∧ ek ≠ 12 ∧ ek ≠ 6 ∧ ek ≠ 9 ∧ ek ≠ 11 ∧ ek ≠ 10 ∧ ek ≠ 13 ∧ ek ≠ 15) from by omega) with rfl | rfl | rfl | rfl | rfl | rfl | rfl | rfl | rfl | rfl | rfl | rfl | ⟨g3, g14, g5, g8, g4, g12, g6, g9, g11, g10, g13, g15⟩
  · -- 3
    simp at hv
    subst hv
    have hT := Lib.hid ((hh.out.mono (show n ≤ n + 3 by omega)).put_clock enum_)
    go_enter Try.func13, Try.ntmps13
    go_wp2_with fail
    go_end0
    exact ⟨rfl, M.g, (hT.out.1.alloc _).alloc _, hT.out.2.trans1 (Kept.below (w2b _ _)), .refl w M⟩
  · -- 14
    simp at hv
    subst hv
    have hT := Lib.hid ((hh.out.mono (show n ≤ n + 3 by omega)).put_state enum_)
    go_enter Try.func13, Try.ntmps13
    go_wp2_with fail
    go_end0
    exact ⟨rfl, M.g, (hT.out.1.alloc _).alloc _, hT.out.2.trans1 (Kept.below (w2b _ _)), .refl w M⟩
  · -- 5
    simp at hv
    subst hv
    have hc1 := ((hh.out.alloc (.cells #[.int .i64 5, .int .i64 esp, .int .u64 etm, .int .u64 enum_, .int .u64 emany, .string etext, .int .u64 fk, .int .u64 fa, .int .u64 fb, .int .u64 fc, .bool ffin, .string fd, .string fm, .slice la ln lc] 38)).alloc (.cells #[.int .i64 esp, .int .u64 enum_] 52)).drew
    have hl := hc1.sent.look hsp
    obtain ⟨w2, hr, hm, ht⟩ := hc1.sent.store hsp (IntKind.u64.wrap (s.sent esp + 1)) hn0
    have hA := ck_sent hc1 ht hm
    have hEb := ((hE0.out w).below ((Below.refl _ _).alloc (Nat.le_refl _) (.cells #[.int .i64 esp, .int .u64 enum_] 52))).drew.kept hA.2 (hh.out.far (Nat.le_refl _))
    have hPb : PB ((w.alloc (.cells #[.int .i64 5, .int .i64 esp, .int .u64 etm, .int .u64 enum_, .int .u64 emany, .string etext, .int .u64 fk, .int .u64 fa, .int .u64 fb, .int .u64 fc, .bool ffin, .string fd, .string fm, .slice la ln lc] 38)).alloc (.cells #[.int .i64 esp, .int .u64 enum_] 52)).drew (w.heap.size + 1) esp enum_ := ⟨by simp [go_sem], by simp [go_sem]⟩
    have hPb2 := hPb.kept hA.2 (hh.out.far (by omega))
    obtain ⟨e0, e1, e2, e3, e4, e5, e6, e7, e8, e9, e10, e11, e12, e13⟩ := hEb
    obtain ⟨p0, p1⟩ := hPb2
    simp only at e0 e1 e2 e3 e4 e5 e6 e7 e8 e9 e10 e11 e12 e13
    obtain ⟨-, -, -, m3, m4, m5, m6, -⟩ := hA.1.cells
    have hfA := hA.1.free
    have mf3 := hfA 3 (by omega)
    have mf4 := hfA 4 (by omega)
    have mf5 := hfA 5 (by omega)
    have mf6 := hfA 6 (by omega)
    have h1 := hA.1.put_gs esp hsp
    have h2 := h1.1.put_gn enum_ hnu
    have h3 := h2.1.put_left emany
    have h4 := h3.1.put_stage 1
    have hK := Lib.hid (((Kept.below (w2b (w := w) (.cells #[.int .i64 5, .int .i64 esp, .int .u64 etm, .int .u64 enum_, .int .u64 emany, .string etext, .int .u64 fk, .int .u64 fa, .int .u64 fb, .int .u64 fc, .bool ffin, .string fd, .string fm, .slice la ln lc] 38) (.cells #[.int .i64 esp, .int .u64 enum_] 52)).drew).trans1 hA.2).trans1 (((h1.2.trans1 h2.2).trans1 h3.2).trans1 h4.2))
    have hnx := Lib.hid (next_ck h4.1.drew)
    clear hc1 hm ht hA hPb hfA h1 h2 h3 h4
    go_enter Try.func13, Try.ntmps13
    go_wp2_with fail
    go_region
    (try go_wp2_with fail)
    go_region
    (try go_wp2_with (go_at_call 20; refine hnx.out.mono ?_; rintro r w5 ⟨rfl, hc, hk⟩; have hZ := Lib.hid (And.intro hc hk); clear hc hk))
    go_end0
    exact ⟨rfl, M.g, hZ.out.1.mono (by omega), (hK.out.trans1 (Kept.below (Below.refl _ _).drew)).trans1 hZ.out.2, .refl w M⟩
  · -- 8
    simp at hv
    subst hv
    have h1 := hh.out.put_left (IntKind.u64.wrap (s.left - 1))
    have hK := Lib.hid (h1.2.trans1 (Kept.below (w2b (.cells #[.int .i64 8, .int .i64 esp, .int .u64 etm, .int .u64 enum_, .int .u64 emany, .string etext, .int .u64 fk, .int .u64 fa, .int .u64 fb, .int .u64 fc, .bool ffin, .string fd, .string fm, .slice la ln lc] 38) (.cells #[.int .i64 esp, .int .u64 enum_] 52))))
    have hnx := Lib.hid (next_ck ((h1.1.alloc (.cells #[.int .i64 8, .int .i64 esp, .int .u64 etm, .int .u64 enum_, .int .u64 emany, .string etext, .int .u64 fk, .int .u64 fa, .int .u64 fb, .int .u64 fc, .bool ffin, .string fd, .string fm, .slice la ln lc] 38)).alloc (.cells #[.int .i64 esp, .int .u64 enum_] 52)))
    have hEb : EVB (((w.setCell ⟨M.B, 5, none⟩ (.int .u64 (IntKind.u64.wrap (s.left - 1)))).alloc (.cells #[.int .i64 8, .int .i64 esp, .int .u64 etm, .int .u64 enum_, .int .u64 emany, .string etext, .int .u64 fk, .int .u64 fa, .int .u64 fb, .int .u64 fc, .bool ffin, .string fd, .string fm, .slice la ln lc] 38)).alloc (.cells #[.int .i64 esp, .int .u64 enum_] 52)) w.heap.size ⟨8, esp, etm, enum_, emany, etext, fk, fa, fb, fc, ffin, fd, fm, la, ln, lc, rs⟩ := EVB.below (by have := hE0.out (w.setCell ⟨M.B, 5, none⟩ (.int .u64 (IntKind.u64.wrap (s.left - 1)))); simpa using this) ((Below.refl _ _).alloc (Nat.le_refl _) (.cells #[.int .i64 esp, .int .u64 enum_] 52))
    have hfar := hh.out.far (Nat.le_refl _)
    clear h1
    go_enter Try.func13, Try.ntmps13
    go_wp2_with (first
      | (go_at_call 20; refine hnx.out.mono ?_; rintro r w5 ⟨rfl, hc, hk⟩; have hZ := Lib.hid (And.intro hc hk); have hEc := hEb.kept hk hfar; obtain ⟨e0, e1, e2, e3, e4, e5, e6, e7, e8, e9, e10, e11, e12, e13⟩ := hEc; simp only at e0 e1 e2 e3 e4 e5 e6 e7 e8 e9 e10 e11 e12 e13; clear hc hk)
      | (go_at_call 21; refine (htold.out _ _ _ hZ.out.1 (by omega)).mono ?_; rintro r w6 ⟨rfl, g', hg⟩; have hY := Lib.hid (went (hK.out.trans1 hZ.out.2) hg); clear hg))
    go_end0
    exact ⟨rfl, g', hY.out.1.mono (by omega), hY.out.2⟩
  · -- 4
    simp at hv
    subst hv
    have hT := Lib.hid ((hh.out.mono (show n ≤ n + 3 by omega)).put_stage 3)
    go_enter Try.func13, Try.ntmps13
    go_wp2_with fail
    go_end0
    exact ⟨rfl, M.g, (hT.out.1.alloc _).alloc _, hT.out.2.trans1 (Kept.below (w2b _ _)), .refl w M⟩
  · -- 12
    simp at hv
    subst hv
    have hT := Lib.hid ((hh.out.mono (show n ≤ n + 3 by omega)).put_stage 0)
    go_enter Try.func13, Try.ntmps13
    go_wp2_with fail
    go_end0
    exact ⟨rfl, M.g, (hT.out.1.alloc _).alloc _, hT.out.2.trans1 (Kept.below (w2b _ _)), .refl w M⟩
  · -- 6
    simp at hv
    subst hv
    have hc1 := ((hh.out.alloc (.cells #[.int .i64 6, .int .i64 esp, .int .u64 etm, .int .u64 enum_, .int .u64 emany, .string etext, .int .u64 fk, .int .u64 fa, .int .u64 fb, .int .u64 fc, .bool ffin, .string fd, .string fm, .slice la ln lc] 38)).alloc (.cells #[.int .i64 esp, .int .u64 enum_] 52)).drew
    obtain ⟨w2, hr, hm, ht⟩ := hc1.got.store Try.underlying49 hsp hnu hn0
    have hA := ck_got hc1 ht hm
    have hEb := ((hE0.out w).below ((Below.refl _ _).alloc (Nat.le_refl _) (.cells #[.int .i64 esp, .int .u64 enum_] 52))).drew.kept hA.2 (hh.out.far (Nat.le_refl _))
    obtain ⟨e0, e1, e2, e3, e4, e5, e6, e7, e8, e9, e10, e11, e12, e13⟩ := hEb
    simp only at e0 e1 e2 e3 e4 e5 e6 e7 e8 e9 e10 e11 e12 e13
    obtain ⟨-, -, -, -, -, -, -, m7, m8, -⟩ := hA.1.cells
    have hfA := hA.1.free
    have mf7 := hfA 7 (by omega)
    have mf8 := hfA 8 (by omega)
    have h1 := hA.1.put_coming esp
    have h2 := h1.1.put_rest emany
    have hK := Lib.hid (((Kept.below (w2b (w := w) (.cells #[.int .i64 6, .int .i64 esp, .int .u64 etm, .int .u64 enum_, .int .u64 emany, .string etext, .int .u64 fk, .int .u64 fa, .int .u64 fb, .int .u64 fc, .bool ffin, .string fd, .string fm, .slice la ln lc] 38) (.cells #[.int .i64 esp, .int .u64 enum_] 52)).drew).trans1 hA.2).trans1 (h1.2.trans1 h2.2))
    have hZ := Lib.hid h2.1
    clear hc1 hm ht hA hfA h1 h2
    go_enter Try.func13, Try.ntmps13
    go_wp2_with fail
    go_region
    (try go_wp2_with fail)
    go_region
    (try go_wp2_with fail)
    go_end0
    exact ⟨rfl, M.g, (hZ.out.mono (by omega)).drew, hK.out.trans1 (Kept.below (Below.refl _ _).drew), .refl w M⟩
  · -- 9
    simp at hv
    subst hv
    have h1 := hh.out.put_rest (IntKind.u64.wrap (s.rest - 1))
    have hK := Lib.hid (h1.2.trans1 (Kept.below (w2b (.cells #[.int .i64 9, .int .i64 esp, .int .u64 etm, .int .u64 enum_, .int .u64 emany, .string etext, .int .u64 fk, .int .u64 fa, .int .u64 fb, .int .u64 fc, .bool ffin, .string fd, .string fm, .slice la ln lc] 38) (.cells #[.int .i64 esp, .int .u64 enum_] 52))))
    have hW := Lib.hid ((h1.1.alloc (.cells #[.int .i64 9, .int .i64 esp, .int .u64 etm, .int .u64 enum_, .int .u64 emany, .string etext, .int .u64 fk, .int .u64 fa, .int .u64 fb, .int .u64 fc, .bool ffin, .string fd, .string fm, .slice la ln lc] 38)).alloc (.cells #[.int .i64 esp, .int .u64 enum_] 52))
    clear h1
    go_enter Try.func13, Try.ntmps13
    go_wp2_with (go_at_call 22; refine (hheard.out _ _ _ hW.out hn0).mono ?_; rintro r w6 ⟨rfl, g', hg⟩; have hY := Lib.hid (went hK.out hg); clear hg)
    go_end0
    exact ⟨rfl, g', hY.out.1.mono (by omega), hY.out.2⟩
  · -- 11
    simp at hv
    subst hv
    have hc1 := ((hh.out.alloc (.cells #[.int .i64 11, .int .i64 esp, .int .u64 etm, .int .u64 enum_, .int .u64 emany, .string etext, .int .u64 fk, .int .u64 fa, .int .u64 fb, .int .u64 fc, .bool ffin, .string fd, .string fm, .slice la ln lc] 38)).alloc (.cells #[.int .i64 esp, .int .u64 enum_] 52)).drew
    obtain ⟨w2, hr, hm, ht⟩ := hc1.settled.store Try.underlying49 hsp hnu hn0
    have hA := ck_settled hc1 ht hm
    have hK := Lib.hid ((Kept.below (w2b (w := w) (.cells #[.int .i64 11, .int .i64 esp, .int .u64 etm, .int .u64 enum_, .int .u64 emany, .string etext, .int .u64 fk, .int .u64 fa, .int .u64 fb, .int .u64 fc, .bool ffin, .string fd, .string fm, .slice la ln lc] 38) (.cells #[.int .i64 esp, .int .u64 enum_] 52)).drew).trans1 hA.2)
    have hZ := Lib.hid hA.1
    clear hc1 hm ht hA
    go_enter Try.func13, Try.ntmps13
    go_wp2_with fail
    go_region
    (try go_wp2_with fail)
    go_end0
    exact ⟨rfl, M.g, hZ.out.mono (by omega), hK.out, .refl w M⟩
  · -- 10
    simp at hv
    subst hv
    have hc1 := ((hh.out.alloc (.cells #[.int .i64 10, .int .i64 esp, .int .u64 etm, .int .u64 enum_, .int .u64 emany, .string etext, .int .u64 fk, .int .u64 fa, .int .u64 fb, .int .u64 fc, .bool ffin, .string fd, .string fm, .slice la ln lc] 38)).alloc (.cells #[.int .i64 esp, .int .u64 enum_] 52)).drew
    obtain ⟨w2, hr, hm, ht⟩ := hc1.settled.store Try.underlying49 hsp hnu hn0
    have hA := ck_settled hc1 ht hm
    have hK := Lib.hid ((Kept.below (w2b (w := w) (.cells #[.int .i64 10, .int .i64 esp, .int .u64 etm, .int .u64 enum_, .int .u64 emany, .string etext, .int .u64 fk, .int .u64 fa, .int .u64 fb, .int .u64 fc, .bool ffin, .string fd, .string fm, .slice la ln lc] 38) (.cells #[.int .i64 esp, .int .u64 enum_] 52)).drew).trans1 hA.2)
    have hZ := Lib.hid hA.1
    clear hc1 hm ht hA
    go_enter Try.func13, Try.ntmps13
    go_wp2_with fail
    go_region
    (try go_wp2_with fail)
    go_end0
    exact ⟨rfl, M.g, hZ.out.mono (by omega), hK.out, .refl w M⟩
  · -- 13
    simp at hv
    subst hv
    have hof := Lib.hid (of_any ((hh.out.alloc (.cells #[.int .i64 13, .int .i64 esp, .int .u64 etm, .int .u64 enum_, .int .u64 emany, .string etext, .int .u64 fk, .int .u64 fa, .int .u64 fb, .int .u64 fc, .bool ffin, .string fd, .string fm, .slice la ln lc] 38)).alloc (.cells #[.int .i64 esp, .int .u64 enum_] 52)).drew hnu hn0)
    have hEb := ((hE0.out w).below ((Below.refl _ _).alloc (Nat.le_refl _) (.cells #[.int .i64 esp, .int .u64 enum_] 52))).drew
    have hfar := hh.out.far (Nat.le_refl _)
    have hb0 := (w2b (w := w) (.cells #[.int .i64 13, .int .i64 esp, .int .u64 etm, .int .u64 enum_, .int .u64 emany, .string etext, .int .u64 fk, .int .u64 fa, .int .u64 fb, .int .u64 fc, .bool ffin, .string fd, .string fm, .slice la ln lc] 38) (.cells #[.int .i64 esp, .int .u64 enum_] 52)).drew
    go_enter Try.func13, Try.ntmps13
    go_wp2_with fail
    go_region_with (first | (go_at_call 23; refine hof.out.mono ?_; rintro r w2 ⟨p, g', rfl, hg, hc, hkept, hgrew⟩; have hEc := hEb.kept hkept hfar; have hNn := hgrew.not (b := w.heap.size) (by simp <;> omega) hfar; have hqn : w.heap.size ≠ p := (fun e => hNn (.inr ⟨enum_, e ▸ hg⟩)); obtain ⟨e0, e1, e2, e3, e4, e5, e6, e7, e8, e9, e10, e11, e12, e13⟩ := hEc; simp only at e3 e4; have hP := Lib.hid (known hb0 ⟨hc, hkept, hgrew⟩); have hS := Lib.hid ((hc.strm enum_).1 p hg); obtain ⟨⟨-, -, -, -, -, -, q6⟩, hfq, -⟩ := hS.out; have qf6 := hfq 6 (by omega); clear hc hkept hgrew hfq))
    all_goals
      (try go_wp2_with fail)
      go_end0
      have hT := hP.out.1.putS hg (hS.out.set6 (IntKind.u64.wrap ((s.strm enum_).moved + emany)))
      exact ⟨rfl, g', hT.1.mono (by omega), hP.out.2.1.trans hP.out.2.2 hT.2, hP.out.2.2⟩
  · -- 15
    simp at hv
    subst hv
    have ffs := hfr0.out
    have ff13 := ffs 13 (by omega)
    have hnm := Lib.hid (hN etext ((w.alloc (.cells #[.int .i64 15, .int .i64 esp, .int .u64 etm, .int .u64 enum_, .int .u64 emany, .string etext, .int .u64 fk, .int .u64 fa, .int .u64 fb, .int .u64 fc, .bool ffin, .string fd, .string fm, .slice la ln lc] 38)).alloc (.cells #[.int .i64 esp, .int .u64 enum_] 52)) htx)
    have hW := Lib.hid ((hh.out.alloc (.cells #[.int .i64 15, .int .i64 esp, .int .u64 etm, .int .u64 enum_, .int .u64 emany, .string etext, .int .u64 fk, .int .u64 fa, .int .u64 fb, .int .u64 fc, .bool ffin, .string fd, .string fm, .slice la ln lc] 38)).alloc (.cells #[.int .i64 esp, .int .u64 enum_] 52))
    clear ffs
    go_enter Try.func13, Try.ntmps13
    go_wp2_with (go_at_call 24; refine hnm.out.mono ?_; rintro r w2 ⟨rfl, hb1⟩; have hX := Lib.hid (hW.out.below hb1); have hK2 := Lib.hid ((Kept.below (M := M) (w2b (w := w) (.cells #[.int .i64 15, .int .i64 esp, .int .u64 etm, .int .u64 enum_, .int .u64 emany, .string etext, .int .u64 fk, .int .u64 fa, .int .u64 fb, .int .u64 fc, .bool ffin, .string fd, .string fm, .slice la ln lc] 38) (.cells #[.int .i64 esp, .int .u64 enum_] 52))).trans1 (Kept.below hb1)); obtain ⟨-, m1, -, -, -, -, -, -, -, -, -, -, -, ⟨n13, n14, n15, n16, n17, n18, n19, n20, n21, n22⟩, -, -⟩ := hX.out.cells; have hfx := hX.out.free; have nf13 := hfx 13 (by omega); have nf14 := hfx 14 (by omega); have nf15 := hfx 15 (by omega); have nf16 := hfx 16 (by omega); have nf17 := hfx 17 (by omega); have nf18 := hfx 18 (by omega); have nf19 := hfx 19 (by omega); have nf20 := hfx 20 (by omega); have nf21 := hfx 21 (by omega); have nf22 := hfx 22 (by omega); clear hb1 hfx)
    go_end0
    have hT := ck_lim hX.out (N etext)
    exact ⟨rfl, M.g, hT.1.mono (by omega), hK2.out.trans1 hT.2, .refl w M⟩
  · rw [if_neg g3, if_neg g14, if_neg g5, if_neg g8, if_neg g4, if_neg g12, if_neg g6, if_neg g9, if_neg (by omega), if_neg g13, if_neg g15] at hv
    subst hv
    have b3 := bnf g3
    have b14 := bnf g14
    have b5 := bnf g5
    have b8 := bnf g8
    have b4 := bnf g4
    have b12 := bnf g12
    have b6 := bnf g6
    have b9 := bnf g9
    have b11 := bnf g11
    have b10 := bnf g10
    have b13 := bnf g13
    have b15 := bnf g15
    go_enter Try.func13, Try.ntmps13
    go_wp2_with fail
    go_end0
    exact ⟨rfl, M.g, ((hh.out.mono (by omega)).alloc _).alloc _, Kept.below (w2b _ _), .refl w M⟩
end Go.Proofs.Ytiefkpfjmbifcaa

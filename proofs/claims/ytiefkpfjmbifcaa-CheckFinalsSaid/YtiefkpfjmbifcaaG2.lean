/-
  The law CheckFinals: the walk.
-/
import Derived.Test.YtiefkpfjmbifcaaG1
namespace Go.Proofs.Ytiefkpfjmbifcaa
open Go.RowKit Go.Maps

set_option maxRecDepth 100000 in
set_option maxHeartbeats 8000000 in
theorem finals_any {N : ByteArray → Nat → Int} (hN : NumsOk N) (haw : AwakeOk) (side : Int) (A : Option Addr) (ln lc : Nat) (ev : Nat → Ev) (w : World) (hx : Evs w w.heap.size A ln ev) (hln : ln ≤ 9223372036854775807) :
    Calls Try.prog 7 #[.int .i64 side, .slice A ln lc] w (OkPost w) := by
  have hfd := field_ok
  have hmm := @run_makeMap Try.prog
  have hmx : ∀ (w : World) (ts : Array TypeId) (t : TypeId) (x y : Int), (Builtin.max_ ts t #[.int .u64 x, .int .u64 y]).run Try.prog w = .ok (.int .u64 (mx x y)) w := fun w ts t x y => by rw [run_max_int2]; rfl
  have haw0 := Lib.hid haw
  have hN0 := Lib.hid hN
  have hx0 := Lib.hid hx
  clear haw hN hx
  go_enter Try.func7, Try.ntmps7
  go_wp2_with (go_at_call 8; refine (haw0.out _).mono ?_; rintro r w1 ⟨rfl, hb1⟩; have hB1 := Lib.hid hb1; clear hb1)
  refine (large_any A ln lc ev w1 ((hx0.out.below hB1.out).up hB1.out.size) hln).mono ?_
  rintro r w2 ⟨lg, rfl, hlg, hb2⟩
  have hB2 := Lib.hid (next hB1.out hb2 hB1.out.size)
  have hlg0 := Lib.hid hlg
  clear hb2 hlg
  cases lg
  · obtain ⟨h120, hbs⟩ := hlg0.out rfl
    have h120' := Lib.hid h120
    clear hbs
    go_wp2_with (go_at_call 10; refine (trace_any hN0.out side A ln lc ev w2 ((hx0.out.below hB2.out).up hB2.out.size) h120).mono ?_; rintro r w3 ⟨ok, rule, at_, rfl, hv, hb3⟩; have hV := Lib.hid hv; have hB3 := Lib.hid (next hB2.out hb3 hB2.out.size); clear hv hb3)
    · go_ret
      exact ⟨rfl, hB3.out⟩
    · have hok : ok = true := by simpa using ‹(!ok) = false›
      have hall : ∀ j, j < ln → ¬ 0 < badF N side ev j := by
        rcases hV.out with ⟨-, -, -, h⟩ | ⟨_, -, h, -⟩
        · exact h
        · rw [hok] at h; cases h
      subst hok
      simp only [Bool.not_true]
      have hall0 := Lib.hid hall
      clear hall hlg0 h120
      have hS := Lib.hid (show GR N side ev w w3.heap.size 0 ((w3.alloc (.map #[] 0)).alloc (.map #[] 0)) from
        ⟨⟨_, (Ends.made w.heap.size w3 _).below ((Below.refl _ _).alloc (Nat.le_refl _) _)⟩, by have h := MapV.made (w3.alloc (.map #[] 0)); simp only [show (w3.alloc (.map #[] 0)).heap.size = w3.heap.size + 1 from by simp] at h; exact h.congr fun _ => rfl, (hB3.out.alloc hB3.out.size _).alloc (by have := hB3.out.size; simp <;> omega) _⟩)
      have hsz3 := hB3.out.size
      go_loopw [30] (fun v wr => ∃ j : Nat, j ≤ ln ∧ v = .int .i64 j ∧ GR N side ev w w3.heap.size j wr) (fun v _ => ln - (intOf v).toNat)
      case atStart => exact ⟨0, by omega, by simp, hS.out⟩
      case round =>
        obtain ⟨j, hj, rfl, hgr⟩ := hrel
        have hbel := hgr.2.2
        have hG := Lib.hid hgr
        have hBl := Lib.hid hbel
        clear hgr
        by_cases hlt : j < ln
        · obtain ⟨b, off, rfl, hbB, ⟨a0, a1, a2, a3, a4, a5, a6, a7, a8, a9, a10, a11, a12, a13⟩, hok', -⟩ := (hx0.out.below hBl.out) j hlt
          have hbl : b < wr.heap.size := by have := hbel.size; omega
          have hfa := hok'.f.a
          have hfd' := hok'.f.d
          have hjm : j < maxLen := by have := h120'.out; unfold maxLen; omega
          have hs : ¬ 0 < brokenF (runF N side ev j) (ev j) := hall0.out j hlt
          have hs0 := Lib.hid hs
          clear hs hok' hbel
          by_cases k8 : (ev j).k = 8
          · by_cases f8 : (ev j).f.k = 8
            · have hT : Hid (∀ (wA w9 : World) (g : Int → Int), GR N side ev w w3.heap.size j wA → wA.mapTurned w9 (w3.heap.size + 1) → MapV w9 (w3.heap.size + 1) (j + 1) g → g = setU (fun i => farF ((runF N side ev j).strm i)) (ev j).f.a (mx (farF ((runF N side ev j).strm (ev j).f.a)) (endF (ev j).f)) → ∃ E, GM N side ev w w3.heap.size j w9 E) := fun wA w9 g h1 h2 h3 h4 => h1.told hsz3 hs0.out k8 (.inl f8) h2 h3 h4
              have hFi : Hid (finF (ev j).f = true → ((runF N side ev (j + 1)).strm (ev j).f.a).known = true ∧ ((runF N side ev (j + 1)).strm (ev j).f.a).final = endF (ev j).f) := (loud_step (N := N) hs0.out k8 (.inl f8)).2.2.2
              clear hs0
              generalize ev j = e at *
              obtain ⟨ek, esp, etm, enum_, emany, etext, fk, fa, fb, fc, ffin, fd, fm, la, lnn, lcc, rs⟩ := e
              simp only at a0 a1 a2 a3 a4 a5 a6 a7 a8 a9 a10 a11 a12 a13 hfa hfd' k8 f8 hT hFi
              subst k8
              subst f8
              cases ffin
              · have hW2 : Below wr.heap.size wr ((wr.alloc (.cells #[.int .i64 8, .int .i64 esp, .int .u64 etm, .int .u64 enum_, .int .u64 emany, .string etext, .int .u64 8, .int .u64 fa, .int .u64 fb, .int .u64 fc, .bool false, .string fd, .string fm, .slice la lnn lcc] 38)).alloc (.cells #[.int .u64 8, .int .u64 fa, .int .u64 fb, .int .u64 fc, .bool false, .string fd, .string fm, .slice la lnn lcc] 36)) := ((Below.refl _ _).alloc (Nat.le_refl _) _).alloc (by simp) _
                have xG := hG.out.below hW2
                have lu := xG.2.1.look hfa
                obtain ⟨w9, hr9, hm9, ht9⟩ := xG.2.1.store hfa (mx (farF ((runF N side ev j).strm fa)) (IntKind.u64.wrap (fb + fd.size))) hjm
                obtain ⟨E, hGM⟩ := hT.out _ _ _ xG ht9 hm9 (by rw [end_eight rfl])
                have hml := hG.out.2.1.lt
                have hF8 : ((wr.alloc (.cells #[.int .i64 8, .int .i64 esp, .int .u64 etm, .int .u64 enum_, .int .u64 emany, .string etext, .int .u64 8, .int .u64 fa, .int .u64 fb, .int .u64 fc, .bool false, .string fd, .string fm, .slice la lnn lcc] 38)).alloc (.cells #[.int .u64 8, .int .u64 fa, .int .u64 fb, .int .u64 fc, .bool false, .string fd, .string fm, .slice la lnn lcc] 36)).heap[wr.heap.size + 1]? = some (.cells #[.int .u64 8, .int .u64 fa, .int .u64 fb, .int .u64 fc, .bool false, .string fd, .string fm, .slice la lnn lcc] 36 (0, 0)) := by have h := (MapKept.heap_alloc (wr.alloc (.cells #[.int .i64 8, .int .i64 esp, .int .u64 etm, .int .u64 enum_, .int .u64 emany, .string etext, .int .u64 8, .int .u64 fa, .int .u64 fb, .int .u64 fc, .bool false, .string fd, .string fm, .slice la lnn lcc] 38)) (.cells #[.int .u64 8, .int .u64 fa, .int .u64 fb, .int .u64 fc, .bool false, .string fd, .string fm, .slice la lnn lcc] 36)).1; simp only [show ∀ o, (wr.alloc o).heap.size = wr.heap.size + 1 from fun o => by simp] at h; exact h
                have hF9 : w9.heap[wr.heap.size + 1]? = some (.cells #[.int .u64 8, .int .u64 fa, .int .u64 fb, .int .u64 fc, .bool false, .string fd, .string fm, .slice la lnn lcc] 36 (0, 0)) := (turned_other ht9 (by omega)).trans hF8
                have qc : ∀ i, w9.cell? ⟨wr.heap.size + 1, i, none⟩ = (#[.int .u64 8, .int .u64 fa, .int .u64 fb, .int .u64 fc, .bool false, .string fd, .string fm, .slice la lnn lcc] : Array Value)[i]? := fun i => cell_of_row w9 _ i _ 36 (0, 0) hF9
                have q0 : w9.cell? ⟨wr.heap.size + 1, 0, none⟩ = some (.int .u64 8) := qc 0
                have q1 : w9.cell? ⟨wr.heap.size + 1, 1, none⟩ = some (.int .u64 fa) := qc 1
                have q4 : w9.cell? ⟨wr.heap.size + 1, 4, none⟩ = some (.bool false) := qc 4
                have hM := Lib.hid hGM
                clear xG hm9 ht9 hGM hW2 hml qc hF8
                clear hF9 q1
                go_wp2_with fail
                go_roundw
                case rel => first | exact ⟨j + 1, by omega, by go_num, hM.out.rest⟩ | exact ⟨_, _, _, _, ⟨j + 1, by omega, by go_num, hM.out.rest⟩, rfl, rfl, rfl, rfl⟩
                case measure => simp [intOf]; omega
              · have hW2 : Below wr.heap.size wr ((wr.alloc (.cells #[.int .i64 8, .int .i64 esp, .int .u64 etm, .int .u64 enum_, .int .u64 emany, .string etext, .int .u64 8, .int .u64 fa, .int .u64 fb, .int .u64 fc, .bool true, .string fd, .string fm, .slice la lnn lcc] 38)).alloc (.cells #[.int .u64 8, .int .u64 fa, .int .u64 fb, .int .u64 fc, .bool true, .string fd, .string fm, .slice la lnn lcc] 36)) := ((Below.refl _ _).alloc (Nat.le_refl _) _).alloc (by simp) _
                have xG := hG.out.below hW2
                have lu := xG.2.1.look hfa
                obtain ⟨w9, hr9, hm9, ht9⟩ := xG.2.1.store hfa (mx (farF ((runF N side ev j).strm fa)) (IntKind.u64.wrap (fb + fd.size))) hjm
                obtain ⟨E, hGM⟩ := hT.out _ _ _ xG ht9 hm9 (by rw [end_eight rfl])
                have hml := hG.out.2.1.lt
                have hF8 : ((wr.alloc (.cells #[.int .i64 8, .int .i64 esp, .int .u64 etm, .int .u64 enum_, .int .u64 emany, .string etext, .int .u64 8, .int .u64 fa, .int .u64 fb, .int .u64 fc, .bool true, .string fd, .string fm, .slice la lnn lcc] 38)).alloc (.cells #[.int .u64 8, .int .u64 fa, .int .u64 fb, .int .u64 fc, .bool true, .string fd, .string fm, .slice la lnn lcc] 36)).heap[wr.heap.size + 1]? = some (.cells #[.int .u64 8, .int .u64 fa, .int .u64 fb, .int .u64 fc, .bool true, .string fd, .string fm, .slice la lnn lcc] 36 (0, 0)) := by have h := (MapKept.heap_alloc (wr.alloc (.cells #[.int .i64 8, .int .i64 esp, .int .u64 etm, .int .u64 enum_, .int .u64 emany, .string etext, .int .u64 8, .int .u64 fa, .int .u64 fb, .int .u64 fc, .bool true, .string fd, .string fm, .slice la lnn lcc] 38)) (.cells #[.int .u64 8, .int .u64 fa, .int .u64 fb, .int .u64 fc, .bool true, .string fd, .string fm, .slice la lnn lcc] 36)).1; simp only [show ∀ o, (wr.alloc o).heap.size = wr.heap.size + 1 from fun o => by simp] at h; exact h
                have hF9 : w9.heap[wr.heap.size + 1]? = some (.cells #[.int .u64 8, .int .u64 fa, .int .u64 fb, .int .u64 fc, .bool true, .string fd, .string fm, .slice la lnn lcc] 36 (0, 0)) := (turned_other ht9 (by omega)).trans hF8
                have qc : ∀ i, w9.cell? ⟨wr.heap.size + 1, i, none⟩ = (#[.int .u64 8, .int .u64 fa, .int .u64 fb, .int .u64 fc, .bool true, .string fd, .string fm, .slice la lnn lcc] : Array Value)[i]? := fun i => cell_of_row w9 _ i _ 36 (0, 0) hF9
                have q0 : w9.cell? ⟨wr.heap.size + 1, 0, none⟩ = some (.int .u64 8) := qc 0
                have q1 : w9.cell? ⟨wr.heap.size + 1, 1, none⟩ = some (.int .u64 fa) := qc 1
                have q4 : w9.cell? ⟨wr.heap.size + 1, 4, none⟩ = some (.bool true) := qc 4
                have hM := Lib.hid hGM
                clear xG hm9 ht9 hGM hW2 hml qc hF8
                obtain ⟨hkn, hfi⟩ := hFi.out rfl
                rw [end_eight rfl] at hfi
                obtain ⟨i0, hi, hz0, hz1, hz2⟩ := info_parts info33
                have hX := Lib.hid (hM.out.below ((Below.refl _ w9).alloc (Nat.le_refl _) (.cells #[.int .u64 (IntKind.u64.wrap (fb + fd.size))] 33)).drew)
                have lk1 := (hM.out.below (Below.refl _ w9).drew).1.look hfa
                have lk2 := hX.out.1.look hfa
                have c0 : (w9.alloc (.cells #[.int .u64 (IntKind.u64.wrap (fb + fd.size))] 33)).drew.cell? ⟨w9.heap.size, 0, none⟩ = some (.int .u64 (IntKind.u64.wrap (fb + fd.size))) := by simp [go_sem]
                have hF9' := Lib.hid (show (w9.alloc (.cells #[.int .u64 (IntKind.u64.wrap (fb + fd.size))] 33)).drew.heap[wr.heap.size + 1]? = _ from (Below.heap_alloc w9 (.cells #[.int .u64 (IntKind.u64.wrap (fb + fd.size))] 33) (wr.heap.size + 1) (Array.getElem?_eq_some_iff.1 hF9).1).trans hF9)
                have q1' : (w9.alloc (.cells #[.int .u64 (IntKind.u64.wrap (fb + fd.size))] 33)).drew.cell? ⟨wr.heap.size + 1, 1, none⟩ = some (.int .u64 fa) := cell_of_row _ _ 1 _ 36 (0, 0) hF9'.out
                have hnil : E fa = none → slX (E fa) (.int .u64 (IntKind.u64.wrap (fb + fd.size))) = [] := fun e => by rw [e]; rfl
                have hown := Lib.hid (hX.out.own hfi)
                have hlen : (slX (E fa) (.int .u64 (IntKind.u64.wrap (fb + fd.size)))).length ≤ 1048576 := Nat.le_trans (hX.out.len fa _) (by have := h120'.out; omega)
                have hnil0 := Lib.hid hnil
                have hkn0 := Lib.hid hkn
                have hfi0 := Lib.hid hfi
                clear hF9 hnil hkn hfi
                go_wp2_with fail
                go_region_held3 (fun w' => w'.cell? ⟨wr.heap.size + 1, 1, none⟩ = some (.int .u64 fa))
                  (first | assumption | exact q1 | exact q1' | exact q10 | exact q11)
                  (first | (refine step_append_sl rfl (.tmp 83) (.tmp 85) rfl w.heap.size i0 _ hi hz0 hz1 hz2 rfl (E fa) (slX (E fa) (.int .u64 (IntKind.u64.wrap (fb + fd.size)))) rfl hnil0.out hown.out ⟨w9.heap.size, 0, none⟩ 1 (.int .u64 (IntKind.u64.wrap (fb + fd.size))) rfl c0 rfl hlen hX.out.2.2.size ?_; intro p' w10 hpn ho hwh hgr; obtain ⟨w11, hr11, hGR, hkeep⟩ := hX.out.put hsz3 hfa hkn0.out hfi0.out hjm p' hpn ho hwh hgr; obtain ⟨e1, e2⟩ := hkeep _ _ _ hF9'.out (by decide); have q10 := (World.cell?_of_block (a := ⟨wr.heap.size + 1, 1, none⟩) e1).trans q1'; have q11 := (World.cell?_of_block (a := ⟨wr.heap.size + 1, 1, none⟩) e2).trans q1'; have hGR0 := Lib.hid hGR; clear hpn ho hwh hgr hGR hkeep e1 e2))
                all_goals
                  (try go_wp2_with fail)
                  go_roundw
                  case rel => first | exact ⟨j + 1, by omega, by go_num, hGR0.out⟩ | exact ⟨_, _, _, _, ⟨j + 1, by omega, by go_num, hGR0.out⟩, rfl, rfl, rfl, rfl⟩
                  case measure => simp [intOf]; omega
            · by_cases f4 : (ev j).f.k = 4
              · clear f8
                have hT : Hid (∀ (wA w9 : World) (g : Int → Int), GR N side ev w w3.heap.size j wA → wA.mapTurned w9 (w3.heap.size + 1) → MapV w9 (w3.heap.size + 1) (j + 1) g → g = setU (fun i => farF ((runF N side ev j).strm i)) (ev j).f.a (mx (farF ((runF N side ev j).strm (ev j).f.a)) (endF (ev j).f)) → ∃ E, GM N side ev w w3.heap.size j w9 E) := fun wA w9 g h1 h2 h3 h4 => h1.told hsz3 hs0.out k8 (.inr f4) h2 h3 h4
                have hFi : Hid (finF (ev j).f = true → ((runF N side ev (j + 1)).strm (ev j).f.a).known = true ∧ ((runF N side ev (j + 1)).strm (ev j).f.a).final = endF (ev j).f) := (loud_step (N := N) hs0.out k8 (.inr f4)).2.2.2
                clear hs0
                generalize ev j = e at *
                obtain ⟨ek, esp, etm, enum_, emany, etext, fk, fa, fb, fc, ffin, fd, fm, la, lnn, lcc, rs⟩ := e
                simp only at a0 a1 a2 a3 a4 a5 a6 a7 a8 a9 a10 a11 a12 a13 hfa hfd' k8 f4 hT hFi
                subst k8
                subst f4
                cases ffin
                · have hW2 : Below wr.heap.size wr ((wr.alloc (.cells #[.int .i64 8, .int .i64 esp, .int .u64 etm, .int .u64 enum_, .int .u64 emany, .string etext, .int .u64 4, .int .u64 fa, .int .u64 fb, .int .u64 fc, .bool false, .string fd, .string fm, .slice la lnn lcc] 38)).alloc (.cells #[.int .u64 4, .int .u64 fa, .int .u64 fb, .int .u64 fc, .bool false, .string fd, .string fm, .slice la lnn lcc] 36)) := ((Below.refl _ _).alloc (Nat.le_refl _) _).alloc (by simp) _
                  have xG := hG.out.below hW2
                  have lu := xG.2.1.look hfa
                  obtain ⟨w9, hr9, hm9, ht9⟩ := xG.2.1.store hfa (mx (farF ((runF N side ev j).strm fa)) fc) hjm
                  obtain ⟨E, hGM⟩ := hT.out _ _ _ xG ht9 hm9 (by rw [end_four rfl])
                  have hml := hG.out.2.1.lt
                  have hF8 : ((wr.alloc (.cells #[.int .i64 8, .int .i64 esp, .int .u64 etm, .int .u64 enum_, .int .u64 emany, .string etext, .int .u64 4, .int .u64 fa, .int .u64 fb, .int .u64 fc, .bool false, .string fd, .string fm, .slice la lnn lcc] 38)).alloc (.cells #[.int .u64 4, .int .u64 fa, .int .u64 fb, .int .u64 fc, .bool false, .string fd, .string fm, .slice la lnn lcc] 36)).heap[wr.heap.size + 1]? = some (.cells #[.int .u64 4, .int .u64 fa, .int .u64 fb, .int .u64 fc, .bool false, .string fd, .string fm, .slice la lnn lcc] 36 (0, 0)) := by have h := (MapKept.heap_alloc (wr.alloc (.cells #[.int .i64 8, .int .i64 esp, .int .u64 etm, .int .u64 enum_, .int .u64 emany, .string etext, .int .u64 4, .int .u64 fa, .int .u64 fb, .int .u64 fc, .bool false, .string fd, .string fm, .slice la lnn lcc] 38)) (.cells #[.int .u64 4, .int .u64 fa, .int .u64 fb, .int .u64 fc, .bool false, .string fd, .string fm, .slice la lnn lcc] 36)).1; simp only [show ∀ o, (wr.alloc o).heap.size = wr.heap.size + 1 from fun o => by simp] at h; exact h
                  have hF9 : w9.heap[wr.heap.size + 1]? = some (.cells #[.int .u64 4, .int .u64 fa, .int .u64 fb, .int .u64 fc, .bool false, .string fd, .string fm, .slice la lnn lcc] 36 (0, 0)) := (turned_other ht9 (by omega)).trans hF8
                  have qc : ∀ i, w9.cell? ⟨wr.heap.size + 1, i, none⟩ = (#[.int .u64 4, .int .u64 fa, .int .u64 fb, .int .u64 fc, .bool false, .string fd, .string fm, .slice la lnn lcc] : Array Value)[i]? := fun i => cell_of_row w9 _ i _ 36 (0, 0) hF9
                  have q0 : w9.cell? ⟨wr.heap.size + 1, 0, none⟩ = some (.int .u64 4) := qc 0
                  have q1 : w9.cell? ⟨wr.heap.size + 1, 1, none⟩ = some (.int .u64 fa) := qc 1
                  have q4 : w9.cell? ⟨wr.heap.size + 1, 4, none⟩ = some (.bool false) := qc 4
                  have hM := Lib.hid hGM
                  clear xG hm9 ht9 hGM hW2 hml qc hF8
                  obtain ⟨hkn, hfi⟩ := hFi.out rfl
                  rw [end_four rfl] at hfi
                  obtain ⟨i0, hi, hz0, hz1, hz2⟩ := info_parts info33
                  have hX := Lib.hid (hM.out.below ((Below.refl _ w9).alloc (Nat.le_refl _) (.cells #[.int .u64 fc] 33)).drew)
                  have lk1 := (hM.out.below (Below.refl _ w9).drew).1.look hfa
                  have lk2 := hX.out.1.look hfa
                  have c0 : (w9.alloc (.cells #[.int .u64 fc] 33)).drew.cell? ⟨w9.heap.size, 0, none⟩ = some (.int .u64 fc) := by simp [go_sem]
                  have hF9' := Lib.hid (show (w9.alloc (.cells #[.int .u64 fc] 33)).drew.heap[wr.heap.size + 1]? = _ from (Below.heap_alloc w9 (.cells #[.int .u64 fc] 33) (wr.heap.size + 1) (Array.getElem?_eq_some_iff.1 hF9).1).trans hF9)
                  have q1' : (w9.alloc (.cells #[.int .u64 fc] 33)).drew.cell? ⟨wr.heap.size + 1, 1, none⟩ = some (.int .u64 fa) := cell_of_row _ _ 1 _ 36 (0, 0) hF9'.out
                  have hnil : E fa = none → slX (E fa) (.int .u64 fc) = [] := fun e => by rw [e]; rfl
                  have hown := Lib.hid (hX.out.own hfi)
                  have hlen : (slX (E fa) (.int .u64 fc)).length ≤ 1048576 := Nat.le_trans (hX.out.len fa _) (by have := h120'.out; omega)
                  have hnil0 := Lib.hid hnil
                  have hkn0 := Lib.hid hkn
                  have hfi0 := Lib.hid hfi
                  clear hF9 hnil hkn hfi
                  go_wp2_with fail
                  go_region_held3 (fun w' => w'.cell? ⟨wr.heap.size + 1, 1, none⟩ = some (.int .u64 fa))
                    (first | assumption | exact q1 | exact q1' | exact q10 | exact q11)
                    (first | (refine step_append_sl rfl (.tmp 83) (.tmp 85) rfl w.heap.size i0 _ hi hz0 hz1 hz2 rfl (E fa) (slX (E fa) (.int .u64 fc)) rfl hnil0.out hown.out ⟨w9.heap.size, 0, none⟩ 1 (.int .u64 fc) rfl c0 rfl hlen hX.out.2.2.size ?_; intro p' w10 hpn ho hwh hgr; obtain ⟨w11, hr11, hGR, hkeep⟩ := hX.out.put hsz3 hfa hkn0.out hfi0.out hjm p' hpn ho hwh hgr; obtain ⟨e1, e2⟩ := hkeep _ _ _ hF9'.out (by decide); have q10 := (World.cell?_of_block (a := ⟨wr.heap.size + 1, 1, none⟩) e1).trans q1'; have q11 := (World.cell?_of_block (a := ⟨wr.heap.size + 1, 1, none⟩) e2).trans q1'; have hGR0 := Lib.hid hGR; clear hpn ho hwh hgr hGR hkeep e1 e2))
                  all_goals
                    (try go_wp2_with fail)
                    go_roundw
                    case rel => first | exact ⟨j + 1, by omega, by go_num, hGR0.out⟩ | exact ⟨_, _, _, _, ⟨j + 1, by omega, by go_num, hGR0.out⟩, rfl, rfl, rfl, rfl⟩
                    case measure => simp [intOf]; omega
                · have hW2 : Below wr.heap.size wr ((wr.alloc (.cells #[.int .i64 8, .int .i64 esp, .int .u64 etm, .int .u64 enum_, .int .u64 emany, .string etext, .int .u64 4, .int .u64 fa, .int .u64 fb, .int .u64 fc, .bool true, .string fd, .string fm, .slice la lnn lcc] 38)).alloc (.cells #[.int .u64 4, .int .u64 fa, .int .u64 fb, .int .u64 fc, .bool true, .string fd, .string fm, .slice la lnn lcc] 36)) := ((Below.refl _ _).alloc (Nat.le_refl _) _).alloc (by simp) _
                  have xG := hG.out.below hW2
                  have lu := xG.2.1.look hfa
                  obtain ⟨w9, hr9, hm9, ht9⟩ := xG.2.1.store hfa (mx (farF ((runF N side ev j).strm fa)) fc) hjm
                  obtain ⟨E, hGM⟩ := hT.out _ _ _ xG ht9 hm9 (by rw [end_four rfl])
                  have hml := hG.out.2.1.lt
                  have hF8 : ((wr.alloc (.cells #[.int .i64 8, .int .i64 esp, .int .u64 etm, .int .u64 enum_, .int .u64 emany, .string etext, .int .u64 4, .int .u64 fa, .int .u64 fb, .int .u64 fc, .bool true, .string fd, .string fm, .slice la lnn lcc] 38)).alloc (.cells #[.int .u64 4, .int .u64 fa, .int .u64 fb, .int .u64 fc, .bool true, .string fd, .string fm, .slice la lnn lcc] 36)).heap[wr.heap.size + 1]? = some (.cells #[.int .u64 4, .int .u64 fa, .int .u64 fb, .int .u64 fc, .bool true, .string fd, .string fm, .slice la lnn lcc] 36 (0, 0)) := by have h := (MapKept.heap_alloc (wr.alloc (.cells #[.int .i64 8, .int .i64 esp, .int .u64 etm, .int .u64 enum_, .int .u64 emany, .string etext, .int .u64 4, .int .u64 fa, .int .u64 fb, .int .u64 fc, .bool true, .string fd, .string fm, .slice la lnn lcc] 38)) (.cells #[.int .u64 4, .int .u64 fa, .int .u64 fb, .int .u64 fc, .bool true, .string fd, .string fm, .slice la lnn lcc] 36)).1; simp only [show ∀ o, (wr.alloc o).heap.size = wr.heap.size + 1 from fun o => by simp] at h; exact h
                  have hF9 : w9.heap[wr.heap.size + 1]? = some (.cells #[.int .u64 4, .int .u64 fa, .int .u64 fb, .int .u64 fc, .bool true, .string fd, .string fm, .slice la lnn lcc] 36 (0, 0)) := (turned_other ht9 (by omega)).trans hF8
                  have qc : ∀ i, w9.cell? ⟨wr.heap.size + 1, i, none⟩ = (#[.int .u64 4, .int .u64 fa, .int .u64 fb, .int .u64 fc, .bool true, .string fd, .string fm, .slice la lnn lcc] : Array Value)[i]? := fun i => cell_of_row w9 _ i _ 36 (0, 0) hF9
                  have q0 : w9.cell? ⟨wr.heap.size + 1, 0, none⟩ = some (.int .u64 4) := qc 0
                  have q1 : w9.cell? ⟨wr.heap.size + 1, 1, none⟩ = some (.int .u64 fa) := qc 1
                  have q4 : w9.cell? ⟨wr.heap.size + 1, 4, none⟩ = some (.bool true) := qc 4
                  have hM := Lib.hid hGM
                  clear xG hm9 ht9 hGM hW2 hml qc hF8
                  obtain ⟨hkn, hfi⟩ := hFi.out rfl
                  rw [end_four rfl] at hfi
                  obtain ⟨i0, hi, hz0, hz1, hz2⟩ := info_parts info33
                  have hX := Lib.hid (hM.out.below ((Below.refl _ w9).alloc (Nat.le_refl _) (.cells #[.int .u64 fc] 33)).drew)
                  have lk1 := (hM.out.below (Below.refl _ w9).drew).1.look hfa
                  have lk2 := hX.out.1.look hfa
                  have c0 : (w9.alloc (.cells #[.int .u64 fc] 33)).drew.cell? ⟨w9.heap.size, 0, none⟩ = some (.int .u64 fc) := by simp [go_sem]
                  have hF9' := Lib.hid (show (w9.alloc (.cells #[.int .u64 fc] 33)).drew.heap[wr.heap.size + 1]? = _ from (Below.heap_alloc w9 (.cells #[.int .u64 fc] 33) (wr.heap.size + 1) (Array.getElem?_eq_some_iff.1 hF9).1).trans hF9)
                  have q1' : (w9.alloc (.cells #[.int .u64 fc] 33)).drew.cell? ⟨wr.heap.size + 1, 1, none⟩ = some (.int .u64 fa) := cell_of_row _ _ 1 _ 36 (0, 0) hF9'.out
                  have hnil : E fa = none → slX (E fa) (.int .u64 fc) = [] := fun e => by rw [e]; rfl
                  have hown := Lib.hid (hX.out.own hfi)
                  have hlen : (slX (E fa) (.int .u64 fc)).length ≤ 1048576 := Nat.le_trans (hX.out.len fa _) (by have := h120'.out; omega)
                  have hnil0 := Lib.hid hnil
                  have hkn0 := Lib.hid hkn
                  have hfi0 := Lib.hid hfi
                  clear hF9 hnil hkn hfi
                  go_wp2_with fail
                  go_region_held3 (fun w' => w'.cell? ⟨wr.heap.size + 1, 1, none⟩ = some (.int .u64 fa))
                    (first | assumption | exact q1 | exact q1' | exact q10 | exact q11)
                    (first | (refine step_append_sl rfl (.tmp 83) (.tmp 85) rfl w.heap.size i0 _ hi hz0 hz1 hz2 rfl (E fa) (slX (E fa) (.int .u64 fc)) rfl hnil0.out hown.out ⟨w9.heap.size, 0, none⟩ 1 (.int .u64 fc) rfl c0 rfl hlen hX.out.2.2.size ?_; intro p' w10 hpn ho hwh hgr; obtain ⟨w11, hr11, hGR, hkeep⟩ := hX.out.put hsz3 hfa hkn0.out hfi0.out hjm p' hpn ho hwh hgr; obtain ⟨e1, e2⟩ := hkeep _ _ _ hF9'.out (by decide); have q10 := (World.cell?_of_block (a := ⟨wr.heap.size + 1, 1, none⟩) e1).trans q1'; have q11 := (World.cell?_of_block (a := ⟨wr.heap.size + 1, 1, none⟩) e2).trans q1'; have hGR0 := Lib.hid hGR; clear hpn ho hwh hgr hGR hkeep e1 e2))
                  all_goals
                    (try go_wp2_with fail)
                    go_roundw
                    case rel => first | exact ⟨j + 1, by omega, by go_num, hGR0.out⟩ | exact ⟨_, _, _, _, ⟨j + 1, by omega, by go_num, hGR0.out⟩, rfl, rfl, rfl, rfl⟩
                    case measure => simp [intOf]; omega
              · have b8 : ((ev j).f.k != 8) = true := by simp [f8]
                have b4 : ((ev j).f.k != 4) = true := by simp [f4]
                go_wp2_with fail
                go_roundw
                case rel => first | exact ⟨j + 1, by omega, by go_num, (hG.out.below (((Below.refl _ _).alloc (Nat.le_refl _) _).alloc (by simp) _)).skip (by omega)⟩ | exact ⟨_, _, _, _, ⟨j + 1, by omega, by go_num, (hG.out.below (((Below.refl _ _).alloc (Nat.le_refl _) _).alloc (by simp) _)).skip (by omega)⟩, rfl, rfl, rfl, rfl⟩
                case measure => simp [intOf]; omega
          · have b8 := bnf k8
            go_wp2_with fail
            go_roundw
            case rel => first | exact ⟨j + 1, by omega, by go_num, (hG.out.below (((Below.refl _ _).alloc (Nat.le_refl _) _).alloc (by simp) _)).skip (by omega)⟩ | exact ⟨_, _, _, _, ⟨j + 1, by omega, by go_num, (hG.out.below (((Below.refl _ _).alloc (Nat.le_refl _) _).alloc (by simp) _)).skip (by omega)⟩, rfl, rfl, rfl, rfl⟩
            case measure => simp [intOf]; omega
        · have hje : j = ln := by omega
          subst hje
          obtain ⟨wA, hwA⟩ : ∃ wA, wA = wr := ⟨wr, rfl⟩
          subst hwA
          obtain ⟨⟨E, hE⟩, hF, -⟩ := hG.out
          obtain ⟨D, hown, hD⟩ := hE.map
          have hE0 := Lib.hid hE
          have hF0 := Lib.hid hF
          have hD0 := Lib.hid hD
          clear hE hF hD hbel hS hx0
          go_wp2_with (first
            | (at_range; refine wpList_range_own _ rfl _ 42 rfl 33 44 law33 Try.underlying42 _ w3.heap.size j _ rfl hown ?_; intro w0 hrg0 hg0 hs0)
            | go_in)
          (try go_frame)
          go_loopw [] (fun wy => ∃ (left : Lit → Bool) (cnt : Nat), wy.ranges Try.prog 33 Rs w3.heap.size wA.heap.size j D left cnt ∧ Below wA.heap.size wA wy) (fun wy => wy.rangeLeft w3.heap.size wA.heap.size)
          case atStart => exact ⟨_, _, hrg0, (Below.refl _ wA).grown hg0 (Nat.le_refl _) (fun k hk => by cases hk)⟩
          case round =>
            obtain ⟨left, cnt, hrg, hby⟩ := hrel
            go_wp2_with (first
              | (at_next; refine wpList_next_ranges _ rfl _ rfl 33 law33 Rs (Value.int .u64) (fun v => v) (fun key kl hkey => by obtain ⟨x, rfl, _⟩ := Maps.keyOf_int_inv Try.underlying33 hkey; exact ⟨x, rfl⟩) (fun v y _ => ⟨v, rfl⟩) w3.heap.size wA.heap.size j _ _ _ rfl hrg ?_ ?_)
              | go_in)
            · intro _ hl0
              clear hrg hown hl0
              go_wp2
              go_ret
              exact ⟨rfl, next hBl.out hby hBl.out.size⟩
            · intro x c kl y1 y2 w4 cnt1 hkey hlx hv hat hrg1 hlt1 hg1 hs1 hen
              obtain ⟨x', ex, rfl, hwx⟩ := Maps.keyOf_int_inv Try.underlying33 hkey
              injection ex with _ ex
              subst ex
              have hwx' : Word x := by
                simp [Lit.wf, IntKind.min, IntKind.max, IntKind.signed, IntKind.bits] at hwx
                exact ⟨by omega, by omega⟩
              have hb1 : Below wA.heap.size wA w4 := hby.grown hg1 hby.size (fun k hk => by cases hk; exact Nat.le_refl _)
              have hy := hD0.out x hwx'
              rw [hat] at hy
              subst hy
              have hc : c = slV (E x) := Rs_inv hv
              subst hc
              obtain ⟨ao, n, cap, fin, hsl, hn, hcell, hlk⟩ := (hE0.out.below hb1).reads (hF0.out.below hb1) hwx'
              rw [hsl] at hen
              have hn120 : n ≤ 120 := by have := h120'.out; omega
              have hr1 := Lib.hid hrg1
              have ho := Lib.hid hrg
              have hcell0 := Lib.hid hcell
              clear hv hat hrg1 hrg hkey hcell hown hsl hlx
              go_wp2_with fail
              go_loopw [97] (fun v wy => ∃ i : Nat, i ≤ n ∧ v = .int .i64 i ∧ wy = w4) (fun v _ => n - (intOf v).toNat)
              case atStart => exact ⟨0, by omega, by simp, rfl⟩
              case round =>
                obtain ⟨i, hi, rfl, rfl⟩ := hrel
                by_cases hin : i < n
                · obtain ⟨g, rfl, ci⟩ := hcell0.out i hin
                  obtain ⟨g', eg, c0⟩ := hcell0.out 0 (by omega)
                  injection eg with eg
                  injection eg with eg
                  subst eg
                  have lk := hlk (by omega)
                  go_wp2_with fail
                  go_roundw
                  case rel => exact ⟨i + 1, by omega, by go_num, trivial⟩
                  case measure => simp [intOf]; omega
                · have hie : i = n := by omega
                  go_wp2_with fail
                  go_roundw
                  case rel => exact ⟨_, cnt1, hr1.out, hb1⟩
                  case measure => rw [hr1.out.left_eq, ho.out.left_eq]; exact hlt1
  · go_wp2_with fail
    go_ret
    exact ⟨rfl, hB2.out⟩
end Go.Proofs.Ytiefkpfjmbifcaa

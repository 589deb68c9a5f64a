/-
  The calls whose answers are fixed: the walk.
-/
import Derived.Test.YtiefkpfjmbifcaaEx
import Derived.OwnWalk
import Derived.Laws.AppendOwn
namespace Go.Proofs.Ytiefkpfjmbifcaa
open Go.RowKit Go.Maps
theorem evs_list {w : World} {b : Nat} {t : TypeId} {n : Nat} {ev : Nat → Ev} {cur : Array Value} (hb : w.heap[b]? = some (.cells cur t (0, 0))) (hc : ∀ j, j < n * 14 → cur[j]? = (rowOf ev n)[j]?) (hok : ∀ k, (ev k).Ok) (hln : ∀ k, (ev k).f.ln = 0) :
    Evs w w.heap.size (some ⟨b, 0, none⟩) n ev :=
  evs_row hb (fun k hk i hi => by rw [hc _ (by omega)]; exact row_at ev n k hk i hi) hok hln
def VC (w : World) (b : Nat) (ok : Bool) (r a : Int) : Prop := w.cell? ⟨b, 0, none⟩ = some (.bool ok) ∧ w.cell? ⟨b, 1, none⟩ = some (.int .i64 r) ∧ w.cell? ⟨b, 2, none⟩ = some (.int .i64 a)
theorem VC.block {w w' : World} {b : Nat} {ok : Bool} {r a : Int} (h : VC w b ok r a) (hh : w'.heap[b]? = w.heap[b]?) : VC w' b ok r a := by
  have ec : ∀ i, w'.cell? ⟨b, i, none⟩ = w.cell? ⟨b, i, none⟩ := fun i => World.cell?_of_block (a := ⟨b, i, none⟩) hh
  unfold VC
  simp only [ec]
  exact h
theorem VC.below {w w' : World} {b : Nat} {ok : Bool} {r a : Int} (h : VC w b ok r a) (hb : Below w.heap.size w w') : VC w' b ok r a := h.block (hb.block _ (World.block_lt_of_cell? _ _ h.1))
theorem row_set {w : World} {b : Nat} {cur : Array Value} {t : TypeId} (h : w.heap[b]? = some (.cells cur t (0, 0))) (i : Nat) (v : Value) : (w.setCell ⟨b, i, none⟩ v).heap[b]? = some (.cells (cur.setIfInBounds i v) t (0, 0)) := by
  simp [World.setCell, Array.getElem?_modify, h]
theorem VC.newAt {w : World} {b : Nat} (hb : b = w.heap.size) (ok : Bool) (r a : Int) (t : TypeId) : VC (w.alloc (.cells #[.bool ok, .int .i64 r, .int .i64 a] t)) b ok r a := by
  subst hb
  refine ⟨?_, ?_, ?_⟩ <;> simp [go_sem]
theorem own6 {w : World} {base n : Nat} {v : Value} {xs : List Value} (h : w.ownsRow base 38 14 v n xs) (hn : 0 < n) : ∃ g cap cur, v = .slice (some ⟨g, 0, none⟩) n cap ∧ base ≤ g ∧ w.heap[g]? = some (.cells cur 38 (0, 0)) ∧ ∀ j, j < n * 14 → cur[j]? = xs[j]? := by
  obtain ⟨-, ⟨-, h1⟩ | ⟨g, cap, cur, rfl, hb, hg, -, -, -, ht⟩⟩ := h
  · omega
  · refine ⟨g, cap, cur, rfl, hb, hg, fun j hj => ?_⟩
    rw [← ht, List.getElem?_take, if_pos hj]
    simp
theorem info38 : (Try.prog.info? 38).map (fun i => (i.zero, i.size, i.bytes)) = some (some (.agg #[.int .i64 0, .int .i64 0, .int .u64 0, .int .u64 0, .int .u64 0, .string ⟨#[]⟩, .int .u64 0, .int .u64 0, .int .u64 0, .int .u64 0, .bool false, .string ⟨#[]⟩, .string ⟨#[]⟩, .slice none 0 0]), 14, 152) := by kernel_rfl
theorem eq26a (w : World) : (binOp .eql 26 (.agg #[.bool false, .int .i64 2, .int .i64 2]) (.agg #[.bool false, .int .i64 2, .int .i64 2])).run Try.prog w = .ok (.bool true) w := by simp [go_sem]
theorem eq26b (w : World) : (binOp .eql 26 (.agg #[.bool true, .int .i64 0, .int .i64 0]) (.agg #[.bool true, .int .i64 0, .int .i64 0])).run Try.prog w = .ok (.bool true) w := by simp [go_sem]
theorem eq26c (w : World) : (binOp .eql 26 (.agg #[.bool false, .int .i64 1, .int .i64 0]) (.agg #[.bool false, .int .i64 1, .int .i64 0])).run Try.prog w = .ok (.bool true) w := by simp [go_sem]
def news : List Value := evL (evB 3) ++ evL (evB 4) ++ evL (evB 5)
theorem row6 : rowOf evB 6 = rowOf evB 3 ++ news := rfl
theorem old_cells {w : World} {b : Nat} {cur : List Value} {o : Obj} (h : w.heap[b]? = some (.cells cur.toArray 38 (0, 0))) (hb : b < w.heap.size) : ∀ b', some (Addr.mk b 0 none) = some b' → ∀ j u, cur[j]? = some u → (w.alloc o).cell? (b'.add j) = some u := fun b' hb' j u hj => by
  injection hb' with hb'
  subst hb'
  have hadd : (⟨b, 0, none⟩ : Addr).add j = ⟨b, j, none⟩ := by unfold Addr.add; split <;> simp_all
  rw [hadd, cell_of_row _ b j _ 38 (0, 0) ((Below.heap_alloc w o b hb).trans h)]
  simpa using hj
theorem new_cells (w : World) : ∀ j u, news[j]? = some u → (w.alloc (.cells news.toArray 38)).cell? ((⟨w.heap.size, 0, none⟩ : Addr).add j) = some u := fun j u hj => by
  have hadd : (⟨w.heap.size, 0, none⟩ : Addr).add j = ⟨w.heap.size, j, none⟩ := by unfold Addr.add; split <;> simp_all
  rw [hadd, cell_of_row _ w.heap.size j _ 38 (0, 0) (MapKept.heap_alloc w _).1]
  simpa using hj
theorem news_one : ∀ u ∈ news, u.oneCell' = true := fun u hu => List.all_eq_true.1 (show news.all (fun u => u.oneCell') = true from by kernel_rfl) u hu
theorem rules_any (w : World) : Calls Try.prog 11 #[] w fun r w' => r = .returned (.int .i64 13) ∧ w' = w := by
  go_enter Try.func11, Try.ntmps11
  go_wp2_with fail
  go_ret
  exact ⟨rfl, rfl⟩
set_option maxRecDepth 100000 in
set_option maxHeartbeats 8000000 in
theorem awake_any {N : ByteArray → Nat → Int} (hN : NumsOk N) (w : World) : Calls Try.prog 8 #[] w (OkPost w) := by
  have hN0 := Lib.hid hN
  clear hN
  have hfd := field_ok
  obtain ⟨W1, hW1⟩ : ∃ W, Hid (W = w.alloc (.cells (rowOf evA 3).toArray 38)) := ⟨_, rfl⟩
  have hE1 : Evs W1 W1.heap.size (some ⟨w.heap.size, 0, none⟩) 3 evA := by
    rw [hW1.out]
    exact evs_list (MapKept.heap_alloc w _).1 (fun j _ => by simp) okA lnA
  have hT1 := Lib.hid (trace_any hN0.out 0 (some ⟨w.heap.size, 0, none⟩) 3 3 evA W1 hE1 (by omega))
  rw [hW1.out] at hT1
  clear hE1 hW1
  obtain ⟨i0, hi, hz0, hz1, hz2⟩ := info_parts info38
  go_enter Try.func8, Try.ntmps8
  go_upto_region 3 with (go_at_call 10; refine hT1.out.mono ?_; rintro r w1 ⟨ok, rule, at_, rfl, hv, hb⟩; obtain ⟨rfl, rfl, rfl⟩ := vA hv; have hB1 := Lib.hid hb; clear hb hv)
  have hb1 : w1.heap[w.heap.size]? = some (.cells (rowOf evA 3).toArray 38 (0, 0)) := (hB1.out.block _ (by simp)).trans (MapKept.heap_alloc w _).1
  have hcell : ∀ j, w1.cell? ⟨w.heap.size, j, none⟩ = (rowOf evA 3).toArray[j]? := fun j => cell_of_row w1 _ j _ 38 (0, 0) hb1
  have hfz : ∀ j, w1.frozen? ⟨w.heap.size, j, none⟩ = false := fun j => by simp [World.frozen?, hb1]
  have c28 := hcell 28
  have c29 := hcell 29
  have c30 := hcell 30
  have c31 := hcell 31
  have c32 := hcell 32
  have c33 := hcell 33
  have c34 := hcell 34
  have c35 := hcell 35
  have c36 := hcell 36
  have c37 := hcell 37
  have c38 := hcell 38
  have c39 := hcell 39
  have c40 := hcell 40
  have c41 := hcell 41
  simp [rowOf, evL, evA, fz] at c28 c29 c30 c31 c32 c33 c34 c35 c36 c37 c38 c39 c40 c41
  have z28 := hfz 28
  have z29 := hfz 29
  have z30 := hfz 30
  have z31 := hfz 31
  have z32 := hfz 32
  have z33 := hfz 33
  have z34 := hfz 34
  have z35 := hfz 35
  have z36 := hfz 36
  have z37 := hfz 37
  have z38 := hfz 38
  have z39 := hfz 39
  have z40 := hfz 40
  have z41 := hfz 41
  have hl1 : w.heap.size < w1.heap.size := (Array.getElem?_eq_some_iff.1 hb1).1
  have hl2 : w.heap.size ≠ w1.heap.size := by omega
  clear hcell hfz
  go_cut [] (fun wx => wx.heap[w.heap.size]? = some (.cells (rowOf evB 3).toArray 38 (0, 0)) ∧ VC wx w1.heap.size false 2 2 ∧ Below w.heap.size w wx ∧ w1.heap.size < wx.heap.size)
  case first =>
    go_wp2_with fail
    go_meet
    refine ⟨?_, ?_, ?_, ?_⟩
    · rw [heap_before _ _ _ (by simp <;> omega)]
      exact (row_set (row_set (row_set (row_set (row_set (row_set (row_set (row_set (row_set (row_set (row_set (row_set (row_set (row_set hb1 28 _) 29 _) 30 _) 31 _) 32 _) 33 _) 34 _) 35 _) 36 _) 37 _) 38 _) 39 _) 40 _) 41 _).trans (by kernel_rfl)
    · exact VC.newAt (by simp) _ _ _ _
    · have hbW : Below w.heap.size w w1 := next2 hB1.out ((Below.refl _ w).alloc (Nat.le_refl _) _)
      exact ((((((((((((((hbW.setCell (p := ⟨w.heap.size, 28, none⟩) (Nat.le_refl _) _).setCell (p := ⟨w.heap.size, 29, none⟩) (Nat.le_refl _) _).setCell (p := ⟨w.heap.size, 30, none⟩) (Nat.le_refl _) _).setCell (p := ⟨w.heap.size, 31, none⟩) (Nat.le_refl _) _).setCell (p := ⟨w.heap.size, 32, none⟩) (Nat.le_refl _) _).setCell (p := ⟨w.heap.size, 33, none⟩) (Nat.le_refl _) _).setCell (p := ⟨w.heap.size, 34, none⟩) (Nat.le_refl _) _).setCell (p := ⟨w.heap.size, 35, none⟩) (Nat.le_refl _) _).setCell (p := ⟨w.heap.size, 36, none⟩) (Nat.le_refl _) _).setCell (p := ⟨w.heap.size, 37, none⟩) (Nat.le_refl _) _).setCell (p := ⟨w.heap.size, 38, none⟩) (Nat.le_refl _) _).setCell (p := ⟨w.heap.size, 39, none⟩) (Nat.le_refl _) _).setCell (p := ⟨w.heap.size, 40, none⟩) (Nat.le_refl _) _).setCell (p := ⟨w.heap.size, 41, none⟩) (Nat.le_refl _) _).alloc (by simp <;> omega) _
    · simp
  case rest =>
    obtain ⟨hb2, hv1, hbel, hs1⟩ := hcut
    have hb3 : ∀ j u, (rowOf evB 3)[j]? = some u → wc.cell? ⟨w.heap.size, j, none⟩ = some u := fun j u hj => by
      rw [cell_of_row wc _ j _ 38 (0, 0) hb2]
      simpa using hj
    have hbl := Lib.hid hbel
    have hv1' := Lib.hid hv1
    have hb2' := Lib.hid hb2
    have hb3' := Lib.hid hb3
    clear hb1 hB1 hT1 hb2 hv1 hbel hb3 c28 z28 c29 z29 c30 z30 c31 z31 c32 z32 c33 z33 c34 z34 c35 z35 c36 z36 c37 z37 c38 z38 c39 z39 c40 z40 c41 z41
    have hsz0 : w.heap.size < wc.heap.size := by omega
    go_wp2_with (at_builtin; refine wpList_append_grows _ rfl _ _ 22 rfl 38 i0 _ 14 152 Try.underlying22 hi hz0 hz1 hz2 (by rfl) (by omega) (some ⟨w.heap.size, 0, none⟩) 3 3 (rowOf evB 3) rfl (fun h => by cases h) rfl (old_cells hb2'.out hsz0) ⟨wc.heap.size, 0, none⟩ 3 3 news rfl rfl (new_cells wc) news_one (by omega) (by unfold maxLen; omega) (by omega) ?_; intro v' w2 hown hgr; obtain ⟨g, cap, cur, rfl, hg0, hg1, hg2⟩ := own6 hown (by omega); have hE2 := evs_list (ev := evB) (n := 6) hg1 (fun j hj => by rw [hg2 j (by omega), row6]) okB lnB; have hT2 := Lib.hid (trace_any hN0.out 0 (some ⟨g, 0, none⟩) 6 cap evB w2 hE2 (by omega)); have hb4 := Lib.hid (hbl.out.grown (((World.grownBy_alloc _ _ none)).trans hgr) hbl.out.size (fun k hk => by cases hk)); have hv4 := Lib.hid (hv1'.out.block ((hgr.block _ (by simp <;> omega) (by simp)).trans (Below.heap_alloc wc _ _ hs1))); clear hown hE2 hg1 hg2)
    go_upto_region 5 with (go_at_call 10; refine hT2.out.mono ?_; rintro r w3 ⟨ok, rule, at_, rfl, hv, hb⟩; obtain ⟨rfl, rfl, rfl⟩ := vB hv; have hb5 := Lib.hid (next hb4.out hb hb4.out.size); have hv5 := Lib.hid (hv4.out.below hb); clear hb hv)
    have hsA : w1.heap.size < w3.heap.size := World.block_lt_of_cell? _ _ hv5.out.1
    have hvB := Lib.hid (VC.newAt (w := w3) rfl true 0 0 26)
    go_wp2_with fail
    have hT3 : Calls Try.prog 10 #[.int .i64 0, .slice (some ⟨w3.heap.size + 1, 0, none⟩) 1 1] ((w3.alloc (.cells #[.bool true, .int .i64 0, .int .i64 0] 26)).alloc (.cells (rowOf evC 1).toArray 38)) (TPost N 0 evC 1 ((w3.alloc (.cells #[.bool true, .int .i64 0, .int .i64 0] 26)).alloc (.cells (rowOf evC 1).toArray 38))) := by
      have hh : ((w3.alloc (.cells #[.bool true, .int .i64 0, .int .i64 0] 26)).alloc (.cells (rowOf evC 1).toArray 38)).heap[w3.heap.size + 1]? = some (.cells (rowOf evC 1).toArray 38 (0, 0)) := by
        have := (MapKept.heap_alloc (w3.alloc (.cells #[.bool true, .int .i64 0, .int .i64 0] 26)) (.cells (rowOf evC 1).toArray 38)).1
        have hz : (w3.alloc (.cells #[.bool true, .int .i64 0, .int .i64 0] 26)).heap.size = w3.heap.size + 1 := by simp
        rw [hz] at this
        exact this
      exact trace_any hN0.out 0 (some ⟨w3.heap.size + 1, 0, none⟩) 1 1 evC _ (evs_list hh (fun j _ => by simp) okC lnC) (by omega)
    refine hT3.mono ?_
    rintro r w4 ⟨ok, rule, at_, rfl, hv, hb⟩
    obtain ⟨rfl, rfl, rfl⟩ := vC hv
    have hv6 := (((hv5.out.below ((Below.refl _ _).alloc (Nat.le_refl _) _)).below ((Below.refl _ _).alloc (Nat.le_refl _) _)).below hb)
    have hv7 := ((hvB.out.below ((Below.refl _ _).alloc (Nat.le_refl _) _)).below hb)
    have hb6 := Lib.hid (next ((hb5.out.alloc hb5.out.size _).alloc (by have := hb5.out.size; simp <;> omega) _) hb (by have := hb5.out.size; simp <;> omega))
    obtain ⟨x0, x1, x2⟩ := hv6
    obtain ⟨y0, y1, y2⟩ := hv7
    have hs6 : w1.heap.size < w4.heap.size := World.block_lt_of_cell? _ _ x0
    have hs7 : w3.heap.size < w4.heap.size := World.block_lt_of_cell? _ _ y0
    have hn6 : w1.heap.size ≠ w4.heap.size := by omega
    have hn7 : w3.heap.size ≠ w4.heap.size := by omega
    have qa := eq26a
    have qb := eq26b
    have qc := eq26c
    clear hb hv
    go_wp2_with (go_at_call 10; refine (trace_any hN0.out 1 none 0 0 evC _ (fun k hk => by omega) (by omega)).mono ?_; rintro r w5 ⟨ok, rule, at_, rfl, hv, hb⟩; obtain ⟨rfl, rfl, rfl⟩ := vD hv; have hb7 := Lib.hid (next (hb6.out.alloc hb6.out.size _) hb (by have := hb6.out.size; simp <;> omega)); clear hb hv)
    refine (rules_any _).mono ?_
    rintro r w' ⟨rfl, rfl⟩
    go_wp2_with fail
    go_ret
    exact ⟨rfl, hb7.out⟩
end Go.Proofs.Ytiefkpfjmbifcaa

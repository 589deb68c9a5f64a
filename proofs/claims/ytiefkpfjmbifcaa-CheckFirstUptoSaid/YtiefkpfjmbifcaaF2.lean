/-
  The law CheckFirst: the walk.
-/
import Derived.Test.YtiefkpfjmbifcaaF1
import Derived.Deep.RegionHeld3
namespace Go.Proofs.Ytiefkpfjmbifcaa
open Go.RowKit Go.Maps
/-- What is known of memory behind the two verdicts. -/
def FS (w : World) (b1 b2 : Nat) (rule : Int) (j : Nat) (w' : World) : Prop :=
  w'.cell? ⟨b1, 0, none⟩ = some (.bool false) ∧ w'.cell? ⟨b1, 1, none⟩ = some (.int .i64 rule) ∧ w'.cell? ⟨b1, 2, none⟩ = some (.int .i64 j) ∧ w'.cell? ⟨b2, 0, none⟩ = some (.bool false) ∧ w'.cell? ⟨b2, 1, none⟩ = some (.int .i64 rule) ∧ w'.cell? ⟨b2, 2, none⟩ = some (.int .i64 j) ∧ Below w.heap.size w w'
theorem FS.of {w : World} {b1 b2 : Nat} {rule : Int} {j : Nat} {w' : World}
    (h : w'.cell? ⟨b1, 0, none⟩ = some (.bool false) ∧ w'.cell? ⟨b1, 1, none⟩ = some (.int .i64 rule) ∧ w'.cell? ⟨b1, 2, none⟩ = some (.int .i64 j) ∧ w'.cell? ⟨b2, 0, none⟩ = some (.bool false) ∧ w'.cell? ⟨b2, 1, none⟩ = some (.int .i64 rule) ∧ w'.cell? ⟨b2, 2, none⟩ = some (.int .i64 j) ∧ Below w.heap.size w w') : FS w b1 b2 rule j w' := h
set_option maxRecDepth 100000 in
set_option maxHeartbeats 8000000 in
theorem first_any {N : ByteArray → Nat → Int} (hN : NumsOk N) (haw : AwakeOk) (side : Int) (A : Option Addr) (ln lc : Nat) (ev : Nat → Ev) (A' : Option Addr) (ln' lc' : Nat) (ev' : Nat → Ev) (w : World) (hx : Evs w w.heap.size A ln ev) (hx' : Evs w w.heap.size A' ln' ev') (hcap : ln ≤ lc) (h0 : A = none → ln = 0 ∧ lc = 0) (h0' : A' = none → ln' = 0 ∧ lc' = 0) (hs : ln ≤ 1048576) (hs' : ln' ≤ 1048576) :
    Calls Try.prog 3 #[.int .i64 side, .slice A ln lc, .slice A' ln' lc'] w (OkPost w) := by
  have hfd := field_ok
  have haw0 := Lib.hid haw
  have hN0 := Lib.hid hN
  have hx0 := Lib.hid hx
  have hx0' := Lib.hid hx'
  obtain ⟨i0, hi, hz0, hz1, hz2⟩ := info_parts info38
  clear haw hN hx hx'
  go_enter Try.func3, Try.ntmps3
  go_wp2_with (first
    | (go_at_call 8; refine (haw0.out _).mono ?_; rintro r w1 ⟨rfl, hb1⟩; have hB1 := Lib.hid hb1; clear hb1)
    | (at_builtin; refine wpList_append_ev _ rfl _ _ rfl w.heap.size i0 _ hi hz0 hz1 hz2 rfl _ 0 [] rfl (World.ownsRow_made w1 #[] 0 hB1.out.size (Nat.zero_le _) rfl) A ln lc (rowOf ev ln) rfl (row_len ev ln) h0 (evs_cells (hx0.out.below (hB1.out.alloc hB1.out.size _))) (row_one ev ln) (by omega) (hB1.out.alloc hB1.out.size _).size ?_; intro v2 w2 hown2 hgr2; rw [Nat.zero_add, List.nil_append] at hown2; have hB2 := Lib.hid ((hB1.out.alloc hB1.out.size _).grown hgr2 (hB1.out.alloc hB1.out.size _).size (fun k hk => by cases hk; exact hB1.out.size)); have hO2 := Lib.hid hown2; clear hown2 hgr2)
    | (at_builtin; refine wpList_append_ev _ rfl _ _ rfl w.heap.size i0 _ hi hz0 hz1 hz2 rfl v2 ln (rowOf ev ln) rfl hO2.out A' ln' lc' (rowOf ev' ln') rfl (row_len ev' ln') h0' (evs_cells (hx0'.out.below hB2.out)) (row_one ev' ln') (by omega) hB2.out.size ?_; intro v3 w3 hown3 hgr3; have hB3 := Lib.hid (hB2.out.grown hgr3 hB2.out.size (fun k hk => (hO2.out.lt k hk).1)); obtain ⟨ao, cap, rfl, hE3, hcp⟩ := evs_cat hown3 (hx0.out.below hB3.out) (hx0'.out.below hB3.out) hB3.out.size; have hE := Lib.hid hE3; clear hown3 hgr3 hE3))
  refine (large_any ao (ln + ln') cap (catF ev ln ev') w3 hE.out (by omega)).mono ?_
  rintro r w4 ⟨lg, rfl, hlg, hb4⟩
  have hB4 := Lib.hid (next hB3.out hb4 hB3.out.size)
  have hE4 := Lib.hid ((hE.out.below hb4).up hb4.size)
  have hlg0 := Lib.hid hlg
  clear hb4 hlg
  cases lg
  · obtain ⟨h120, hbs⟩ := hlg0.out rfl
    clear hbs hlg0
    have h120' : ln ≤ 120 := by omega
    go_upto_region 7 with (go_at_call 10; refine (trace_any hN0.out side A ln lc ev w4 ((hx0.out.below hB4.out).up hB4.out.size) h120').mono ?_; rintro r w5 ⟨ok, rule, at0, rfl, hv, hb5⟩; have hV := Lib.hid hv; have hB5 := Lib.hid (next hB4.out hb5 hB4.out.size); have hE5 := Lib.hid ((hE4.out.below hb5).up hb5.size); clear hv hb5)
    go_upto_region 8 with (go_at_call 10; refine (trace_any hN0.out side ao (ln + ln') cap (catF ev ln ev') _ ((hE5.out.below ((Below.refl _ _).alloc (Nat.le_refl _) _)).up (by simp)) h120).mono ?_; rintro r w6 ⟨ok2, rule2, at2, rfl, hv, hb6⟩; have hV2 := Lib.hid hv; have hb7 := Lib.hid hb6; have hB6 := Lib.hid (next (hB5.out.alloc hB5.out.size _) hb6 (by have := hB5.out.size; simp <;> omega)); clear hv hb6)
    have hVC1 := Lib.hid (((VC.newAt (w := w5) rfl ok rule at0 26).below hb7.out).below ((Below.refl _ _).alloc (Nat.le_refl _) (.cells #[.bool ok2, .int .i64 rule2, .int .i64 at2] 26)))
    have hVC2 := Lib.hid (VC.newAt (w := w6) rfl ok2 rule2 at2 26)
    have hB7 := Lib.hid (hB6.out.alloc hB6.out.size (.cells #[.bool ok2, .int .i64 rule2, .int .i64 at2] 26))
    have hW : Verd N side (catF ev ln ev') ln ok rule at0 := verd_congr hV.out (fun k hk => (if_pos hk).symm)
    have eq26 : ∀ (w : World) (b : Bool) (x y : Int), (binOp .eql 26 (.agg #[.bool b, .int .i64 x, .int .i64 y]) (.agg #[.bool b, .int .i64 x, .int .i64 y])).run Try.prog w = .ok (.bool true) w := fun w b x y => by simp [go_sem]
    clear hE hE4 hE5 hO2 hb7
    generalize hW7 : w6.alloc (.cells #[.bool ok2, .int .i64 rule2, .int .i64 at2] 26) = w7 at *
    cases ok
    · obtain ⟨j, hj, rfl, hr1, hr13, hall⟩ := verd_wrong hV.out
      obtain ⟨j', hj', hjj, -, -, hall'⟩ := verd_wrong hW
      have hjj' : j' = j := by omega
      subst hjj'
      obtain ⟨rfl, rfl, rfl⟩ := (hall' _ _ _ _ hV2.out).1 (by omega)
      obtain ⟨x0, x1, x2⟩ := hVC1.out
      obtain ⟨y0, y1, y2⟩ := hVC2.out
      have hT : ∀ (k : Nat) (wx : World), k ≤ ln → (FS w w5.heap.size w6.heap.size rule2 j' wx) → Calls Try.prog 10 #[.int .i64 side, .slice A k lc] wx fun r w' => (∃ ok3 rule3 at3, r = .returned (.agg #[.bool ok3, .int .i64 rule3, .int .i64 at3]) ∧ (j' < k → ok3 = false ∧ rule3 = rule2 ∧ at3 = (j' : Int)) ∧ (k ≤ j' → ok3 = true)) ∧ FS w w5.heap.size w6.heap.size rule2 j' w' := by
        rintro k wx hk ⟨a0, a1, a2, b0, b1, b2, hbx⟩
        refine (trace_any hN0.out side A k lc ev wx (((hx0.out.below hbx).up hbx.size).cut hk) (by omega)).mono ?_
        rintro r w' ⟨ok3, rule3, at3, rfl, hv, hb⟩
        obtain ⟨c0, c1, c2⟩ := VC.below ⟨a0, a1, a2⟩ hb
        obtain ⟨e0, e1, e2⟩ := VC.below ⟨b0, b1, b2⟩ hb
        exact ⟨⟨ok3, rule3, at3, rfl, hall _ _ _ _ hv⟩, c0, c1, c2, e0, e1, e2, next hbx hb hbx.size⟩
      obtain ⟨k', hk'⟩ : ∃ k' : Nat, k' = j' + 1 := ⟨_, rfl⟩
      have hT1 : Hid (∀ wx : World, FS w w5.heap.size w6.heap.size rule2 j' wx → Calls Try.prog 10 #[.int .i64 side, .slice A j' lc] wx fun r w' => (∃ rule3 at3, r = .returned (.agg #[.bool true, .int .i64 rule3, .int .i64 at3])) ∧ FS w w5.heap.size w6.heap.size rule2 j' w') := fun wx hf => (hT j' wx (by omega) hf).mono fun r w' ⟨⟨ok3, rule3, at3, hr, _, h2⟩, hf'⟩ => ⟨⟨rule3, at3, by rw [hr, h2 (Nat.le_refl _)]⟩, hf'⟩
      have hT2 : Hid (∀ wx : World, FS w w5.heap.size w6.heap.size rule2 j' wx → Calls Try.prog 10 #[.int .i64 side, .slice A k' lc] wx fun r w' => r = .returned (.agg #[.bool false, .int .i64 rule2, .int .i64 j']) ∧ FS w w5.heap.size w6.heap.size rule2 j' w') := fun wx hf => (hT k' wx (by omega) hf).mono fun r w' ⟨⟨ok3, rule3, at3, hr, h1, _⟩, hf'⟩ => ⟨by obtain ⟨g1, g2, g3⟩ := h1 (by omega); rw [hr, g1, g2, g3], hf'⟩
      have hB7' := hB7.out.drew
      have hwr : IntKind.i64.wrap ((j' : Int) + 1) = (k' : Int) := (IntWalk.i64_in _ ⟨by omega, by omega⟩).trans (by omega)
      have d1 := decide_eq_true hr1
      have d2 := decide_eq_true hr13
      have d3 : decide ((0 : Int) ≤ (j' : Int)) = true := decide_eq_true (by omega)
      have d4 : decide ((j' : Int) < (ln : Int)) = true := decide_eq_true (by omega)
      have k1 : (0 : Int) ≤ (j' : Int) := by omega
      have k2 : (j' : Int) ≤ (lc : Int) := by omega
      have k3 : (0 : Int) ≤ (k' : Int) := by omega
      have k4 : (k' : Int) ≤ (lc : Int) := by omega
      clear hk' hT hall hall' hV hW hV2 hjj hW7 hB1 hB2 hB3 hB4 hB5 hB6 hVC1 hVC2 hx0 hx0' hN0 hi hz0 hz1 hz2 h120 h120' hs hs' haw0 h0 h0' hB7
      go_wp2_with fail
      go_region_held3 (fun w' => w'.cell? ⟨w5.heap.size, 0, none⟩ = some (.bool false) ∧ w'.cell? ⟨w5.heap.size, 1, none⟩ = some (.int .i64 rule2) ∧ w'.cell? ⟨w5.heap.size, 2, none⟩ = some (.int .i64 j') ∧ w'.cell? ⟨w6.heap.size, 0, none⟩ = some (.bool false) ∧ w'.cell? ⟨w6.heap.size, 1, none⟩ = some (.int .i64 rule2) ∧ w'.cell? ⟨w6.heap.size, 2, none⟩ = some (.int .i64 j') ∧ Below w.heap.size w w')
        (first | assumption | exact hS9 | exact hS8 | exact ⟨x0, x1, x2, y0, y1, y2, hB7'⟩)
        (first
          | (go_at_call 11; refine (rules_any _).mono ?_; rintro r w8 ⟨rfl, rfl⟩)
          | (go_at_call_of 10 (Value.slice A j' lc); refine (hT1.out _ (FS.of (by assumption))).mono ?_; rintro r w8 ⟨⟨rule3, at3, rfl⟩, hS8⟩)
          | (go_at_call_of 10 (Value.slice A k' lc); refine (hT2.out _ (FS.of (by assumption))).mono ?_; rintro r w9 ⟨rfl, hS9⟩))
      go_wp2_with fail
      go_ret
      exact ⟨rfl, hS9.2.2.2.2.2.2⟩
    · obtain ⟨rfl, rfl, hall⟩ := verd_right hW
      have ha := hall _ _ _ _ hV2.out
      obtain ⟨x0, x1, x2⟩ := hVC1.out
      obtain ⟨y0, y1, y2⟩ := hVC2.out
      clear hall hV hW hVC1 hVC2 hx0 hx0' hW7 hB1 hB2 hB3 hB4 hB5 hB6 hV2
      rcases ha with rfl | ⟨rfl, ha⟩
      · go_wp2_with fail
        go_ret
        exact ⟨rfl, hB7.out⟩
      · have d := decide_eq_true ha
        go_wp2_with fail
        go_ret
        exact ⟨rfl, hB7.out⟩
  · go_wp2_with fail
    go_ret
    exact ⟨rfl, hB4.out⟩
end Go.Proofs.Ytiefkpfjmbifcaa

/-
  The law CheckPrefixes: the walk.
-/
import Derived.Test.YtiefkpfjmbifcaaL6
import Derived.Test.YtiefkpfjmbifcaaW16
namespace Go.Proofs.Ytiefkpfjmbifcaa
open Go.RowKit Go.Maps

theorem verd_prefix {N : ByteArray → Nat → Int} {side : Int} {ev : Nat → Ev} {n k : Nat} {ok ok' : Bool} {r a r' a' : Int} (h : Verd N side ev n ok r a) (h' : Verd N side ev k ok' r' a') (hk : k ≤ n) :
    (ok = true → ok' = true) ∧ (ok = false → ok' = decide ((k : Int) ≤ a)) := by
  rcases h with ⟨rfl, -, -, h⟩ | ⟨j, hj, rfl, rfl, -, hb, hl⟩
  · rcases h' with ⟨rfl, -⟩ | ⟨i, hi, -, -, -, hb', -⟩
    · exact ⟨fun _ => rfl, (fun h => by cases h)⟩
    · exact absurd hb' (h i (by omega))
  · refine ⟨(fun h => by cases h), fun _ => ?_⟩
    rcases h' with ⟨rfl, -, -, h'⟩ | ⟨i, hi, rfl, -, -, hb', -⟩
    · have : ¬ j < k := fun hjk => h' j hjk hb
      exact (decide_eq_true (by omega)).symm
    · have : ¬ k ≤ j := fun hkj => hl i (by omega) hb'
      exact (decide_eq_false (by omega)).symm
theorem Evs.cut {w : World} {B0 : Nat} {A : Option Addr} {n k : Nat} {ev : Nat → Ev} (h : Evs w B0 A n ev) (hk : k ≤ n) : Evs w B0 A k ev := fun i hi => h i (by omega)
set_option maxRecDepth 100000 in
set_option maxHeartbeats 8000000 in
theorem prefixes_any {N : ByteArray → Nat → Int} (hN : NumsOk N) (haw : AwakeOk) (side : Int) (A : Option Addr) (ln lc : Nat) (ev : Nat → Ev) (at_ : Int) (h0 : 0 ≤ at_) (h1 : at_ < 256) (w : World) (hx : Evs w w.heap.size A ln ev) (hln : ln ≤ 9223372036854775807) (hcap : ln ≤ lc) :
    Calls Try.prog 4 #[.int .i64 side, .slice A ln lc, .int .u8 at_] w (OkPost w) := by
  have hfd := field_ok
  have haw0 := Lib.hid haw
  have hN0 := Lib.hid hN
  have hx0 := Lib.hid hx
  clear haw hN hx
  go_enter Try.func4, Try.ntmps4
  go_wp2_with (go_at_call 8; refine (haw0.out _).mono ?_; rintro r w1 ⟨rfl, hb1⟩; have hB1 := Lib.hid hb1; clear hb1)
  refine (large_any A ln lc ev w1 ((hx0.out.below hB1.out).up hB1.out.size) hln).mono ?_
  rintro r w2 ⟨lg, rfl, hlg, hb2⟩
  have hB2 := Lib.hid (next hB1.out hb2 hB1.out.size)
  have hlg0 := Lib.hid hlg
  clear hb2 hlg
  cases lg
  · obtain ⟨h120, hbs⟩ := hlg0.out rfl
    have hbs0 := Lib.hid hbs
    obtain ⟨k, hk⟩ : ∃ k : Nat, at_ % ((ln : Int) + 1) = k := ⟨(at_ % ((ln : Int) + 1)).toNat, by have := Int.emod_nonneg at_ (show (ln : Int) + 1 ≠ 0 by omega); omega⟩
    have hkn : k ≤ ln := by have := Int.emod_lt_of_pos at_ (show (0 : Int) < (ln : Int) + 1 by omega); omega
    have htm : at_.tmod ((ln : Int) + 1) = k := by rw [Int.tmod_eq_emod_of_nonneg h0]; exact hk
    have hwr : IntKind.i64.wrap ((ln : Int) + 1) = (ln : Int) + 1 := IntWalk.i64_in _ ⟨by omega, by omega⟩
    clear hbs
    go_upto_region 7 with (go_at_call 10; refine (trace_any hN0.out side A ln lc ev w2 ((hx0.out.below hB2.out).up hB2.out.size) h120).mono ?_; rintro r w3 ⟨ok, rule, at0, rfl, hv, hb3⟩; have hV := Lib.hid hv; have hB3 := Lib.hid (next hB2.out hb3 hB2.out.size); clear hv hb3)
    have hk0 : (0 : Int) ≤ (k : Int) := by omega
    have hk1 : (k : Int) ≤ (ln : Int) := by omega
    have hk2 : (k : Int) ≤ (lc : Int) := by omega
    go_upto_region 8 with (go_at_call 10; refine (trace_any hN0.out side A k lc ev _ ((((hx0.out.below hB3.out).up hB3.out.size).cut hkn).below ((Below.refl _ _).alloc (Nat.le_refl _) _) |>.up (by simp <;> omega)) (by omega)).mono ?_; rintro r w4 ⟨ok2, rule2, at2, rfl, hv, hb4⟩; have hV2 := Lib.hid hv; have hb5 := Lib.hid hb4; have hB4 := Lib.hid (next (hB3.out.alloc hB3.out.size _) hb4 (by have := hB3.out.size; simp <;> omega)); clear hv hb4)
    have hvp := verd_prefix hV.out hV2.out hkn
    obtain ⟨x0, x1, x2⟩ := (VC.newAt (w := w3) rfl ok rule at0 26).below hb5.out
    have hs6 : w3.heap.size < w4.heap.size := World.block_lt_of_cell? _ _ x0
    have hn6 : w3.heap.size ≠ w4.heap.size := by omega
    have hfin := Lib.hid (hB4.out.alloc hB4.out.size (.cells #[.bool ok2, .int .i64 rule2, .int .i64 at2] 26))
    clear hV hV2 hbs0 hlg0 hx0
    cases ok
    · have h2 := hvp.2 rfl
      clear hvp
      subst h2
      go_wp2_with fail
      go_ret
      exact ⟨by simp, hfin.out⟩
    · have h2 := hvp.1 rfl
      clear hvp
      subst h2
      go_wp2_with fail
      go_ret
      exact ⟨rfl, hfin.out⟩
  · go_wp2_with fail
    go_ret
    exact ⟨rfl, hB2.out⟩
end Go.Proofs.Ytiefkpfjmbifcaa

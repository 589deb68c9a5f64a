/-
  Whether events are too large to be looked at: the walk.
-/
import Derived.Test.YtiefkpfjmbifcaaW14
namespace Go.Proofs.Ytiefkpfjmbifcaa
open Go.RowKit Go.Maps

def LPost (ev : Nat → Ev) (ln : Nat) (w : World) (r : Ending) (w' : World) : Prop :=
  ∃ b : Bool, r = .returned (.bool b) ∧ (b = false → ln ≤ 120 ∧ ∀ k, k < ln → (ev k).f.b ≤ 1125899906842624) ∧ Below w.heap.size w w'
set_option maxRecDepth 100000 in
set_option maxHeartbeats 8000000 in
theorem large_any (A : Option Addr) (ln lc : Nat) (ev : Nat → Ev) (w : World) (hx : Evs w w.heap.size A ln ev) (hln : ln ≤ 9223372036854775807) :
    Calls Try.prog 9 #[.slice A ln lc] w (LPost ev ln w) := by
  go_enter Try.func9, Try.ntmps9
  go_wp2_with fail
  go_loopw [3, 9] (fun u v wr => ∃ (j : Nat) (x : Int), j ≤ ln ∧ v = .int .i64 j ∧ u = .int .i64 x ∧ Below w.heap.size w wr ∧ Hid (∀ k, k < j → (ev k).f.b ≤ 1125899906842624)) (fun _ v _ => ln - (intOf v).toNat)
  case atStart => exact ⟨0, 0, by omega, by simp, by simp, Below.refl _ w, fun k hk => by omega⟩
  case round =>
    obtain ⟨j, x, hj, rfl, rfl, hbel, hall⟩ := hrel
    have hBl := Lib.hid hbel
    by_cases hlt : j < ln
    · obtain ⟨b, off, rfl, hbB, ⟨a0, a1, a2, a3, a4, a5, a6, a7, a8, a9, a10, a11, a12, a13⟩, hok, hrng⟩ := (hx.below hBl.out) j hlt
      have hok0 := Lib.hid hok
      have hrng0 := Lib.hid hrng
      have hln2 := hok.f.n
      have hbl : b < wr.heap.size := by have := hbel.size; omega
      clear hok hrng hbel
      by_cases hbig : 1125899906842624 < (ev j).f.b
      · have hb1 := decide_eq_true hbig
        go_wp2_with fail
        go_ret
        exact ⟨true, rfl, fun h => by (cases h), hBl.out⟩
      · have hb1 := decide_eq_false hbig
        have hb2 := Lib.hid hbig
        clear hbig
        go_wp2_with fail
        go_region
        all_goals
          (try go_wp2_with fail)
          go_loopw [3, 51] (fun u v wy => ∃ (i : Nat) (y : Int), i ≤ (ev j).f.ln ∧ v = .int .i64 i ∧ u = .int .i64 y ∧ Below w.heap.size w wy) (fun _ v _ => (ev j).f.ln - (intOf v).toNat)
          case atStart => exact ⟨0, _, by omega, by simp, rfl, hBl.out.drew⟩
          case round =>
            obtain ⟨i, y, hi, rfl, rfl, hby⟩ := hrel
            have hBy := Lib.hid hby
            by_cases hli : i < (ev j).f.ln
            · obtain ⟨_, _, _, _, _, _, hrg⟩ := (hx.below hBy.out) j hlt
              obtain ⟨b2, off2, hA2, hb2B, c0, c1, cw0, cw1⟩ := hrg i hli
              have hb2l : b2 < wr.heap.size := by have := hBy.out.size; omega
              have d0 := cw0.1
              have d1 := cw1.1
              clear hrg cw0 cw1 hby
              rw [hA2]
              go_wp2_with fail
              all_goals
                go_roundw
                case rel => exact ⟨i + 1, _, by omega, by go_num, rfl, hBy.out.alloc hBy.out.size _⟩
                case measure => simp [intOf]; omega
            · have hie : i = (ev j).f.ln := by omega
              go_wp2_with fail
              go_roundw
              case rel =>
                refine ⟨j + 1, _, by omega, by go_num, rfl, hBy.out, fun k hk => ?_⟩
                rcases (show k < j ∨ k = j from by omega) with h1 | h1
                · exact hall.out k h1
                · rw [h1]; have := hb2.out; omega
              case measure => simp [intOf]; omega
    · have hje : j = ln := by omega
      subst hje
      have h120 : (120 < (j : Int)) ∨ ¬ (120 < (j : Int)) := by omega
      rcases h120 with h120 | h120
      · have h2 := decide_eq_true h120
        go_wp2_with fail
        go_ret
        exact ⟨true, by simp, fun h => by (cases h), hBl.out⟩
      · have h2 := decide_eq_false h120
        go_wp2_with fail
        go_ret
        exact ⟨_, rfl, fun _ => ⟨by omega, fun k hk => hall.out k hk⟩, hBl.out⟩
end Go.Proofs.Ytiefkpfjmbifcaa

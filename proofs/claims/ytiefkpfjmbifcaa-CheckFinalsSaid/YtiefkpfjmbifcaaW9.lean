/-
  Whether all numbers of ranges came: the walk.
-/
import Derived.Test.YtiefkpfjmbifcaaW8
namespace Go.Proofs.Ytiefkpfjmbifcaa
open Go.RowKit Go.Maps

/-- The ranges of a frame's list, in memory below B0. -/
def Rng (w : World) (B0 : Nat) (la : Option Addr) (ln : Nat) (rs : Nat → Int × Int) : Prop :=
  ∀ k, k < ln → ∃ b off, la = some ⟨b, off, none⟩ ∧ b < B0 ∧ w.cell? ⟨b, off + k * 2, none⟩ = some (.int .u64 (rs k).1) ∧ w.cell? ⟨b, off + k * 2 + 1, none⟩ = some (.int .u64 (rs k).2) ∧ Word (rs k).1 ∧ Word (rs k).2
theorem Rng.below {w w' : World} {B0 : Nat} {la : Option Addr} {ln : Nat} {rs : Nat → Int × Int} (h : Rng w B0 la ln rs) (hb : Below B0 w w') : Rng w' B0 la ln rs := fun k hk => by
  obtain ⟨b, off, e, hB, h0, h1, h2⟩ := h k hk
  exact ⟨b, off, e, hB, (hb.cell hB).trans h0, (hb.cell hB).trans h1, h2⟩
def all1 (s : St) (sp lo hi : Int) : Prop := ∀ x, lo ≤ x → x ≤ hi → s.got sp x = true
noncomputable def cameF (s : St) (sp : Int) (ln : Nat) (rs : Nat → Int × Int) : Bool := @decide (∀ k, k < ln → all1 s sp (rs k).1 (rs k).2) (Classical.propDecidable _)
theorem came_true {s : St} {sp : Int} {ln : Nat} {rs : Nat → Int × Int} (h : ∀ k, k < ln → all1 s sp (rs k).1 (rs k).2) : cameF s sp ln rs = true := by
  unfold cameF; exact @decide_eq_true _ (Classical.propDecidable _) h
theorem came_false {s : St} {sp : Int} {ln : Nat} {rs : Nat → Int × Int} {k : Nat} (hk : k < ln) {x : Int} (h1 : (rs k).1 ≤ x) (h2 : x ≤ (rs k).2) (h : s.got sp x = false) : cameF s sp ln rs = false := by
  unfold cameF; exact @decide_eq_false _ (Classical.propDecidable _) (fun ha => by have := ha k hk x h1 h2; rw [h] at this; cases this)
set_option maxRecDepth 100000 in
set_option maxHeartbeats 8000000 in
theorem came_any {w : World} {M : Mem} {n : Nat} {s : St} (h : CK w M n s) (sp : Int) (hsp : Whole sp) (la : Option Addr) (ln lc : Nat) (rs : Nat → Int × Int) {B0 : Nat} (hB0 : B0 ≤ w.heap.size) (hr : Rng w B0 la ln rs) (hln : ln ≤ 9223372036854775807) :
    Calls Try.prog 26 #[.pointer (some ⟨M.B, 0, none⟩), .int .i64 sp, .slice la ln lc] w fun r w' => r = .returned (.bool (cameF s sp ln rs)) ∧ Below w.heap.size w w' := by
  have hh := Lib.hid h
  clear h
  go_enter Try.func26, Try.ntmps26
  go_wp2_with fail
  go_loopw [12] (fun v wr => ∃ j : Nat, j ≤ ln ∧ v = .int .i64 j ∧ Below w.heap.size w wr ∧ Hid (∀ k, k < j → all1 s sp (rs k).1 (rs k).2)) (fun v _ => ln - (intOf v).toNat)
  case atStart => exact ⟨0, by omega, by simp, Below.refl _ w, fun k hk => by omega⟩
  case round =>
    obtain ⟨j, hj, rfl, hb, hall⟩ := hrel
    have hc := Lib.hid (hh.out.below hb)
    by_cases hlt : j < ln
    · obtain ⟨b, off, rfl, hbB, a0, a1, wx0, wx1⟩ := (hr.below (hb.mono hB0)) j hlt
      have hx0 : 0 ≤ (rs j).1 := wx0.1
      have hx1 : (rs j).2 < 18446744073709551616 := wx1.2
      have hbl : b < wr.heap.size := by have := hb.size; omega
      have hW := Lib.hid (hc.out.alloc (.cells #[.int .u64 (rs j).1, .int .u64 (rs j).2] 46))
      obtain ⟨-, -, -, -, -, -, -, -, -, -, -, k11, -, -, -, -⟩ := hc.out.cells
      have hBl : M.B < wr.heap.size := World.block_lt_of_cell? _ _ k11
      have hBn : M.B ≠ wr.heap.size := by omega
      go_wp2_with fail
      go_loopw [9] (fun v wy => ∃ x : Int, (rs j).1 ≤ x ∧ x ≤ 18446744073709551615 ∧ v = .int .u64 x ∧ wy = wr.alloc (.cells #[.int .u64 (rs j).1, .int .u64 (rs j).2] 46) ∧ Hid (∀ y, (rs j).1 ≤ y → y < x → s.got sp y = true)) (fun v _ => ((rs j).2 + 1 - intOf v).toNat)
      case atStart => exact ⟨_, Int.le_refl _, by have := wx0.2; omega, rfl, rfl, fun y h1 h2 => by omega⟩
      case round =>
        obtain ⟨x, hx, hx2, rfl, rfl, hy⟩ := hrel
        have hx3 : 0 ≤ x := by omega
        rcases (show x ≤ (rs j).2 ∨ (rs j).2 < x from by omega) with g | g
        · have hl := hW.out.got.look Try.underlying49 hsp (x := x) ⟨hx3, by omega⟩
          cases hgx : s.got sp x
          · rw [hgx] at hl
            have hf := Lib.hid (came_false hlt hx g hgx)
            clear hgx
            go_wp2_with fail
            go_ret
            exact ⟨by rw [hf.out]; rfl, hb.alloc hb.size _⟩
          · rw [hgx] at hl
            have hgx' := Lib.hid hgx
            clear hgx
            by_cases he : x = (rs j).2
            · have he' := btt he
              have hnew := Lib.hid (show ∀ k, k < j + 1 → all1 s sp (rs k).1 (rs k).2 from fun k hk => by
                rcases (show k < j ∨ k = j from by omega) with h1 | h1
                · exact hall.out k h1
                · subst h1
                  intro y h2 h3
                  rcases (show y < x ∨ y = x from by omega) with h4 | h4
                  · exact hy.out y h2 h4
                  · rw [h4]; exact hgx'.out)
              clear he
              go_wp2_with fail
              go_roundw
              case rel => exact ⟨j + 1, by omega, by go_num, hb.alloc hb.size _, hnew⟩
              case measure => simp [intOf]; omega
            · have he' := bnf he
              have hxw : IntKind.u64.wrap (x + 1) = x + 1 := IntWalk.u64_in _ ⟨by omega, by omega⟩
              go_wp2_with fail
              go_roundw
              case rel =>
                refine ⟨x + 1, by omega, by omega, by first | exact trivial | rfl | rw [hxw], by first | exact trivial | rfl, fun y h2 h3 => ?_⟩
                rcases (show y < x ∨ y = x from by omega) with h4 | h4
                · exact hy.out y h2 h4
                · rw [h4]; exact hgx'.out
              case measure => simp [intOf]; omega
        · have hnew := Lib.hid (show ∀ k, k < j + 1 → all1 s sp (rs k).1 (rs k).2 from fun k hk => by
            rcases (show k < j ∨ k = j from by omega) with h1 | h1
            · exact hall.out k h1
            · subst h1
              intro y h2 h3
              exact hy.out y h2 (by omega))
          go_wp2_with fail
          go_roundw
          case rel => exact ⟨j + 1, by omega, by go_num, hb.alloc hb.size _, hnew⟩
          case measure => simp [intOf]; omega
    · have hf := Lib.hid (came_true (s := s) (sp := sp) (ln := ln) (rs := rs) (fun k hk => hall.out k (by omega)))
      go_wp2_with fail
      go_ret
      exact ⟨by rw [hf.out]; rfl, hb⟩
end Go.Proofs.Ytiefkpfjmbifcaa

/-
  For every estimate and every time RttCalms returns true and leaves them as they were: Vary is never more than the greater one of what it was and how far the sample is from Smooth, and Smooth comes no farther from the sample than it was.
  Conditions: none.
-/
import Derived.Test.YtipcfpepdmphcaaL7
import Derived.Test.YtipcfpepdmphcaaOpen
import Derived.ProofKit
import Derived.OpenShut
import Derived.ShutString
import Derived.ChangeOld
import Derived.Below
namespace Go.Proofs.Ytipcfpepdmphcaa.rttCalmsP
open Go.Proofs.Ytipcfpepdmphcaa
open Go.ChangeShapes Go.WideShapes Go.ChangeAt Go.RowKit
open Go.ChangeMaps (open_string shut_string)
set_option linter.unusedVariables false

theorem own : ownKnob Try.prog.godebug = none := by kernel_rfl
theorem laidOut : laidOutB Try.prog = true := by kernel_rfl

set_option maxRecDepth 100000 in
theorem lifted (os : Os) (started : os.Started) (H : Type) (enc : TypeId × Value → H) :
    ReturnsInHanded {} Try.checked os 9 .any (Rows.rttCalmsSpec.pre6 enc Try.prog Try.f9 Rows.rttCalmsRow.domain false) (Rows.rttCalmsSpec.post enc Try.prog Try.f9 false true false false) := by
  refine returnsInHanded_of_change (C := Try.checked) own started (by kernel_rfl) Try.func9
    (ChangeSpec.witness6 (enc := enc) (C := Try.checked) false ⟨#[], #[.agg #[.int .u64 0, .int .u64 0, .int .u64 0, .int .u64 0, .bool false], .int .u64 0], []⟩ 8 (by kernel_rfl) (by kernel_rfl) (by kernel_rfl) (by kernel_rfl)) ?_
  intro W base args ds gs before hval0 hW hcnd _
  have hval : ∀ (j : Nat) t v, Try.f9.params[j]? = some t → args[j]? = some v → Value.okWide Try.prog W .any base t v := hval0
  have hW' := hW
  obtain ⟨p, q, hA0, hV, rfl, hfz, hnd⟩ := hW
  have hA : DataW.TrodAll enc Try.prog W 0 (fun _ => true) true Try.f9.params.toList args.toList ds p := hA0
  rw [Try.params9] at hA hval
  obtain ⟨v0, vs0, d0, ds0, p0, q0, hargs, rfl, rfl, h0, r0⟩ := trodAll_cons hA
  obtain ⟨v1, vs1, d1, ds1, p1, q1, rfl, rfl, rfl, h1, r1⟩ := trodAll_cons r0
  obtain ⟨rfl, rfl, rfl⟩ := trodAll_nil r1
  obtain rfl : args = #[v0, v1] := by cases args; simp_all
  obtain ⟨rfl, rfl⟩ := trodVars_none hV
  have k0 := h0
  have lt0 : ∀ x ∈ p0, x.block < W.heap.size := by obtain ⟨m, hm⟩ := k0; exact DataW.trod_lt m _ _ _ hm
  have k1 := h1
  have lt1 : ∀ x ∈ p1, x.block < W.heap.size := by obtain ⟨m, hm⟩ := k1; exact DataW.trod_lt m _ _ _ hm
  have hv0 := hval 0 24 v0 rfl rfl
  have hv1 := hval 1 22 v1 rfl rfl
  clear hval hA0 hval0
  obtain ⟨c0, c1, c2, c3, c4, y0, y1, y2, y3, y4, m, rfl, rfl, rfl, hy0, hy1, hy2, hy3, hy4⟩ := open_agg5 Try.underlying24 (by kernel_rfl) (by kernel_rfl) hv0 h0
  obtain ⟨a0, e0, rfl, wa0⟩ := DataW.trod_int Try.underlying22 hy0
  obtain ⟨a1, e1, rfl, wa1⟩ := DataW.trod_int Try.underlying22 hy1
  obtain ⟨a2, e2, rfl, wa2⟩ := DataW.trod_int Try.underlying22 hy2
  obtain ⟨a3, e3, rfl, wa3⟩ := DataW.trod_int Try.underlying22 hy3
  obtain ⟨a4, e4, rfl⟩ := DataW.trod_bool Try.underlying4 hy4
  simp at e0 e1 e2 e3 e4
  subst e0 e1 e2 e3 e4
  obtain ⟨t, rfl, rfl, rfl, w1⟩ := open_int Try.underlying22 hv1 h1
  refine (calms_any ⟨a0, a1, a2, a3, a4⟩ t ⟨word_of_wf wa0, word_of_wf wa1, word_of_wf wa2, word_of_wf wa3⟩ (word_of_wf w1) W).mono fun e W' ⟨he, bel⟩ => ?_
  subst he
  exact ⟨_, rfl, _, _, _, [], _, [], hW', trodAll_mk1 (shut_bool Try.underlying4 _), (trodAll_cons_mk (Below.trod laidOut (by kernel_rfl) (of_decide_eq_true (by kernel_rfl)) k0 bel lt0) (trodAll_cons_mk (Below.trod laidOut (by kernel_rfl) (of_decide_eq_true (by kernel_rfl)) k1 bel lt1) trodAll_mk0)), rfl, bel.frame _, fun h => by cases h⟩

theorem proved : Rows.RttCalmsSaid :=
  OpenClaim.holds_of_wide 9 Try.f9 rfl rfl rfl rfl rfl rfl rfl ⟨rfl, rfl, rfl, rfl, rfl⟩ rfl rfl rfl rfl rfl (by kernel_rfl) Try.func9 (by kernel_rfl)
    (of_decide_eq_true (by kernel_rfl)) (by unfold Func.isWrapper; first | (rw [if_pos (by decide +kernel)]; kernel_rfl) | (rw [if_neg (by decide +kernel)]; exact ⟨rfl, rfl⟩))
    (fun os started H enc _ => lifted os started H enc)
#print axioms proved
end Go.Proofs.Ytipcfpepdmphcaa.rttCalmsP

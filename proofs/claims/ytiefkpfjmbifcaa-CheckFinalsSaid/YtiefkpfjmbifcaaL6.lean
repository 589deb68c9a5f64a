/-
  The law CheckCloses: the walk.
-/
import Derived.Test.YtiefkpfjmbifcaaW15
namespace Go.Proofs.Ytiefkpfjmbifcaa
open Go.RowKit Go.Maps

def AwakeOk : Prop := ∀ w : World, Calls Try.prog 8 #[] w fun r w' => r = .returned (.bool true) ∧ Below w.heap.size w w'
theorem ok_facts {s : St} {e : Ev} (h : ¬ 0 < brokenF s e) : timedF s e = true ∧ goesF s e = true ∧ comesF s e = true ∧ standsF s e = true ∧ ¬ (e.k = 5 ∧ e.num ≠ s.sent e.sp) ∧ ¬ (e.k = 6 ∧ s.got e.sp e.num = true) := by
  unfold brokenF at h
  by_cases h1 : timedF s e = false
  · rw [if_pos h1] at h; omega
  rw [if_neg h1] at h
  by_cases h2 : goesF s e = false
  · rw [if_pos h2] at h; omega
  rw [if_neg h2] at h
  by_cases h3 : e.k = 5 ∧ e.num ≠ s.sent e.sp
  · rw [if_pos h3] at h; omega
  rw [if_neg h3] at h
  by_cases h4 : e.k = 6 ∧ s.got e.sp e.num = true
  · rw [if_pos h4] at h; omega
  rw [if_neg h4] at h
  by_cases h5 : comesF s e = false
  · rw [if_pos h5] at h; omega
  rw [if_neg h5] at h
  by_cases h6 : standsF s e = false
  · rw [if_pos h6] at h; omega
  refine ⟨?_, ?_, ?_, ?_, h3, h4⟩ <;> simp_all
theorem next_keeps (s : St) : (nextF s).clock = s.clock ∧ (nextF s).state = s.state := by unfold nextF; split <;> exact ⟨rfl, rfl⟩
theorem told_keeps (s : St) (f : Frm) : (toldF s f).clock = s.clock ∧ (toldF s f).state = s.state := by
  have h : (askF s f).clock = s.clock ∧ (askF s f).state = s.state := by unfold askF; split <;> exact ⟨rfl, rfl⟩
  unfold toldF
  split
  · exact h
  · exact h
theorem heard_keeps (s : St) (f : Frm) : (heardF s f).clock = s.clock ∧ (heardF s f).state = s.state := by
  unfold heardF
  repeat' split
  all_goals exact ⟨rfl, rfl⟩
theorem learn_keeps (N : ByteArray → Nat → Int) (s : St) (e : Ev) : (learnF N s e).clock = (if e.k = 3 then e.num else s.clock) ∧ (learnF N s e).state = if e.k = 14 then e.num else s.state := by
  unfold learnF
  by_cases h3 : e.k = 3
  · simp [h3]
  · rw [if_neg h3, if_neg h3]
    by_cases h14 : e.k = 14
    · simp [h14]
    · rw [if_neg h14, if_neg h14]
      have a1 := next_keeps { s with sent := setU s.sent e.sp (IntKind.u64.wrap (s.sent e.sp + 1)), gs := e.sp, gn := e.num, left := e.many, stage := 1 }
      have a2 := told_keeps (leftF s) e.f
      have a3 := next_keeps { s with left := IntKind.u64.wrap (s.left - 1) }
      have a4 := heard_keeps { s with rest := IntKind.u64.wrap (s.rest - 1) } e.f
      repeat' split
      · exact a1
      · exact ⟨a2.1.trans a3.1, a2.2.trans a3.2⟩
      all_goals first | exact ⟨rfl, rfl⟩ | exact a4
/-- What a right event says of times and states. -/
theorem closes_step {N : ByteArray → Nat → Int} {s : St} {e : Ev} (h : ¬ 0 < brokenF s e) :
    s.clock ≤ e.tm ∧ ((e.k = 5 ∨ e.k = 6) → s.state < 3) ∧ (e.k = 8 → s.state = 2 → e.f.k = 28 ∨ e.f.k = 29) ∧ (e.k = 14 → s.state < e.num ∧ e.num ≤ 4) ∧ (learnF N s e).clock = e.tm ∧ (learnF N s e).state = if e.k = 14 then e.num else s.state := by
  obtain ⟨h1, -, -, h4, -⟩ := ok_facts h
  obtain ⟨l1, l2⟩ := learn_keeps N s e
  unfold timedF at h1
  unfold standsF at h4
  refine ⟨?_, fun hk => ?_, fun hk hs => ?_, fun hk => ?_, ?_, l2⟩
  · split at h1 <;> simp at h1 <;> omega
  · rw [if_neg (by omega), if_pos hk] at h4
    simpa using h4
  · rw [if_neg (by omega), if_neg (by omega), if_pos hk] at h4
    simpa [hs, closingF] using h4
  · rw [if_pos hk] at h4
    simpa using h4
  · rw [l1]
    split at h1 <;> simp at h1 <;> simp [*]
theorem field_ok (ok : Bool) (r a : Int) (w : World) : (Instr.field 26 (.agg #[.bool ok, .int .i64 r, .int .i64 a]) 0).run Try.prog w = .ok (.bool ok) w := by kernel_rfl
def OkPost (w : World) (r : Ending) (w' : World) : Prop := r = .returned (.bool true) ∧ Below w.heap.size w w'
set_option maxRecDepth 100000 in
set_option maxHeartbeats 8000000 in
theorem closes_any {N : ByteArray → Nat → Int} (hN : NumsOk N) (haw : AwakeOk) (side : Int) (A : Option Addr) (ln lc : Nat) (ev : Nat → Ev) (w : World) (hx : Evs w w.heap.size A ln ev) (hln : ln ≤ 9223372036854775807) :
    Calls Try.prog 6 #[.int .i64 side, .slice A ln lc] w (OkPost w) := by
  have hfd := field_ok
  have haw0 := Lib.hid haw
  have hN0 := Lib.hid hN
  have hx0 := Lib.hid hx
  clear haw hN hx
  go_enter Try.func6, Try.ntmps6
  go_wp2_with (go_at_call 8; refine (haw0.out _).mono ?_; rintro r w1 ⟨rfl, hb1⟩; have hB1 := Lib.hid hb1; clear hb1)
  refine (large_any A ln lc ev w1 ((hx0.out.below hB1.out).up hB1.out.size) hln).mono ?_
  rintro r w2 ⟨lg, rfl, hlg, hb2⟩
  have hB2 := Lib.hid (next hB1.out hb2 hB1.out.size)
  have hlg0 := Lib.hid hlg
  clear hb2 hlg
  cases lg
  · obtain ⟨h120, hbs⟩ := hlg0.out rfl
    have hbs0 := Lib.hid hbs
    clear hbs
    go_wp2_with (go_at_call 10; refine (trace_any hN0.out side A ln lc ev w2 ((hx0.out.below hB2.out).up hB2.out.size) h120).mono ?_; rintro r w3 ⟨ok, rule, at_, rfl, hv, hb3⟩; have hV := Lib.hid hv; have hB3 := Lib.hid (next hB2.out hb3 hB2.out.size); clear hv hb3)
    · go_ret
      exact ⟨rfl, hB3.out⟩
    · have hok : ok = true := by simpa using ‹(!ok) = false›
      have hall : ∀ j, j < ln → ¬ 0 < badF N side ev j := by
        rcases hV.out with ⟨-, -, -, h⟩ | ⟨_, -, h, -⟩
        · exact h
        · rw [hok] at h; cases h
      have hall0 := Lib.hid hall
      clear hall hlg0 h120
      go_loopw [5, 6, 22] (fun u5 u6 v wr => ∃ j : Nat, j ≤ ln ∧ v = .int .i64 j ∧ u5 = .int .u64 (runF N side ev j).state ∧ u6 = .int .u64 (runF N side ev j).clock ∧ Below w.heap.size w wr) (fun _ _ v _ => ln - (intOf v).toNat)
      case atStart => exact ⟨0, by omega, by simp, rfl, rfl, hB3.out⟩
      case round =>
        obtain ⟨j, hj, rfl, rfl, rfl, hbel⟩ := hrel
        have hBl := Lib.hid hbel
        by_cases hlt : j < ln
        · obtain ⟨b, off, rfl, hbB, ⟨a0, a1, a2, a3, a4, a5, a6, a7, a8, a9, a10, a11, a12, a13⟩, -, -⟩ := (hx0.out.below hBl.out) j hlt
          have hbl : b < wr.heap.size := by have := hbel.size; omega
          have hs : ¬ 0 < brokenF (runF N side ev j) (ev j) := hall0.out j hlt
          obtain ⟨c1, c2, c3, c4, c5, c6⟩ := closes_step (N := N) hs
          have e5 : Hid ((runF N side ev (j + 1)).clock = (ev j).tm) := c5
          have e6 : Hid ((runF N side ev (j + 1)).state = if (ev j).k = 14 then (ev j).num else (runF N side ev j).state) := c6
          clear c5 c6 hs hbel
          generalize (runF N side ev j).state = st at *
          generalize (runF N side ev j).clock = ck at *
          have d1 := decide_eq_false (Int.not_lt.2 c1)
          have hfin : ∀ (x : Int), x = (if (ev j).k = 14 then (ev j).num else st) → Value.int .u64 x = Value.int .u64 (runF N side ev (j + 1)).state := fun x hx => by rw [hx, e6.out]
          have hfin0 := Lib.hid hfin
          clear hfin
          rcases (show (ev j).k = 5 ∨ (ev j).k = 6 ∨ (ev j).k = 8 ∨ (ev j).k = 14 ∨ ((ev j).k ≠ 5 ∧ (ev j).k ≠ 6 ∧ (ev j).k ≠ 8 ∧ (ev j).k ≠ 14) from by omega) with k | k | k | k | ⟨k5, k6, k8, k14⟩
          · have d2 := decide_eq_false (Int.not_le.2 (c2 (.inl k)))
            have hz0 := Lib.hid (hfin0.out st (by rw [if_neg (by omega)]))
            clear c2 c3 c4
            go_wp2_with fail
            go_roundw
            case rel => exact ⟨j + 1, by omega, by go_num, hz0.out, by rw [e5.out], hBl.out.alloc hBl.out.size _⟩
            case measure => simp [intOf]; omega
          · have d2 := decide_eq_false (Int.not_le.2 (c2 (.inr k)))
            have hz0 := Lib.hid (hfin0.out st (by rw [if_neg (by omega)]))
            clear c2 c3 c4
            go_wp2_with fail
            go_roundw
            case rel => exact ⟨j + 1, by omega, by go_num, hz0.out, by rw [e5.out], hBl.out.alloc hBl.out.size _⟩
            case measure => simp [intOf]; omega
          · have hz0 := Lib.hid (hfin0.out st (by rw [if_neg (by omega)]))
            have c3' := c3 k
            clear c2 c3 c4
            by_cases hst : st = 2
            · rcases c3' hst with hf | hf
              · clear c3'
                go_wp2_with fail
                go_roundw
                case rel => exact ⟨j + 1, by omega, by go_num, hz0.out, by rw [e5.out], hBl.out.alloc hBl.out.size _⟩
                case measure => simp [intOf]; omega
              · clear c3'
                go_wp2_with fail
                go_roundw
                case rel => exact ⟨j + 1, by omega, by go_num, hz0.out, by rw [e5.out], hBl.out.alloc hBl.out.size _⟩
                case measure => simp [intOf]; omega
            · have d3 := bnf hst
              clear c3'
              go_wp2_with fail
              go_roundw
              case rel => exact ⟨j + 1, by omega, by go_num, hz0.out, by rw [e5.out], hBl.out.alloc hBl.out.size _⟩
              case measure => simp [intOf]; omega
          · obtain ⟨g1, g2⟩ := c4 k
            have hz0 := Lib.hid (hfin0.out (ev j).num (by rw [if_pos k]))
            have d2 := decide_eq_false (Int.not_le.2 g1)
            have d3 := decide_eq_false (Int.not_lt.2 g2)
            clear c2 c3 c4
            go_wp2_with fail
            go_roundw
            case rel => exact ⟨j + 1, by omega, by go_num, hz0.out, by rw [e5.out], hBl.out.alloc hBl.out.size _⟩
            case measure => simp [intOf]; omega
          · have hz0 := Lib.hid (hfin0.out st (by rw [if_neg k14]))
            have b5 := bnf k5
            have b6 := bnf k6
            have b8 := bnf k8
            have b14 := bnf k14
            clear c2 c3 c4
            go_wp2_with fail
            go_roundw
            case rel => exact ⟨j + 1, by omega, by go_num, hz0.out, by rw [e5.out], hBl.out.alloc hBl.out.size _⟩
            case measure => simp [intOf]; omega
        · have hje : j = ln := by omega
          go_wp2_with fail
          go_ret
          exact ⟨rfl, hBl.out⟩
  · go_wp2_with fail
    go_ret
    exact ⟨rfl, hB2.out⟩
end Go.Proofs.Ytiefkpfjmbifcaa

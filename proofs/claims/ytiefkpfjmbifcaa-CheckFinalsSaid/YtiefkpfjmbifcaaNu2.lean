/-
  The numbers under ids of parameters' bytes: the walk.
-/
import Derived.Test.YtiefkpfjmbifcaaNu1
import Derived.Deep.DeepCutAuto
namespace Go.Proofs.Ytiefkpfjmbifcaa
open Go.RowKit Go.Maps
def rest2F (s : ByteArray) : ByteArray := restF (restF s)
def stopN (s : ByteArray) : Bool := badN s || badN (restF s) || decide (((rest2F s).size : Int) < nF (restF s))
def outN (s : ByteArray) (out : Nat → Int) : Nat → Int :=
  if nF s < 10 then fun i => if (i : Int) = nF s then nF ((rest2F s).extract 0 (nF (restF s)).toNat) else out i else out
def nextN (s : ByteArray) : ByteArray := (rest2F s).extract (nF (restF s)).toNat (rest2F s).size
def numsL : Nat → ByteArray → (Nat → Int) → Nat → Int
  | 0, _, out => out
  | f + 1, s, out => if s.size = 0 ∨ stopN s = true then out else numsL f (nextN s) (outN s out)
def numsF (t : ByteArray) : Nat → Int := numsL (t.size + 1) t (fun _ => 0)
theorem nums_stop {f : Nat} {s : ByteArray} {out : Nat → Int} (h : s.size = 0 ∨ stopN s = true) : numsL f s out = out := by
  cases f with
  | zero => rfl
  | succ f => rw [numsL, if_pos h]
theorem nums_go {f : Nat} {s : ByteArray} {out : Nat → Int} (h : ¬ (s.size = 0 ∨ stopN s = true)) (hf : s.size < f) : ∃ f', (nextN s).size < f' ∧ numsL f s out = numsL f' (nextN s) (outN s out) := by
  cases f with
  | zero => omega
  | succ f =>
    refine ⟨f, ?_, by rw [numsL, if_neg h]⟩
    have h1 : badN s = false := by
      cases hb : badN s
      · rfl
      · exact absurd (.inr (by unfold stopN; rw [hb]; rfl)) h
    have h2 := rest_lt s h1
    have h3 := rest_le (restF s)
    have h4 : (nextN s).size ≤ (rest2F s).size := by unfold nextN; simp
    unfold rest2F at h4
    omega
theorem next_lt {s : ByteArray} (h : stopN s = false) : (nextN s).size < s.size := by
  have h1 : badN s = false := by
    cases hb : badN s
    · rfl
    · unfold stopN at h; rw [hb] at h; cases h
  have h2 := rest_lt s h1
  have h3 := rest_le (restF s)
  have h4 : (nextN s).size ≤ (rest2F s).size := by unfold nextN; simp
  unfold rest2F at h4
  omega
/-- Ten numbers in a block. -/
def OB (w : World) (b : Nat) (out : Nat → Int) : Prop := ∀ i, i < 10 → w.cell? ⟨b, i, none⟩ = some (.int .u64 (out i)) ∧ w.frozen? ⟨b, i, none⟩ = false
theorem OB.lt {w : World} {b : Nat} {out : Nat → Int} (h : OB w b out) : b < w.heap.size := World.block_lt_of_cell? _ _ (h 0 (by omega)).1
theorem OB.below {w w' : World} {b : Nat} {out : Nat → Int} (h : OB w b out) (hb : Below w.heap.size w w') : OB w' b out := fun i hi =>
  ⟨(hb.cell (p := ⟨b, i, none⟩) h.lt).trans (h i hi).1, (hb.frozen (p := ⟨b, i, none⟩) h.lt).trans (h i hi).2⟩
theorem OB.set {w : World} {b : Nat} {out : Nat → Int} (h : OB w b out) (k : Nat) (hk : k < 10) (v : Int) : OB (w.setCell ⟨b, k, none⟩ (.int .u64 v)) b (fun i => if i = k then v else out i) := fun i hi => by
  refine ⟨?_, by rw [World.frozen?_setCell]; exact (h i hi).2⟩
  by_cases e : i = k
  · subst e
    show _ = some (Value.int .u64 (if i = i then v else out i))
    rw [if_pos rfl]
    simp [go_sem, (h i hi).1]
  · show _ = some (Value.int .u64 (if i = k then v else out i))
    rw [if_neg e]
    have hne : (⟨b, i, none⟩ : Addr) ≠ ⟨b, k, none⟩ := fun h => e (by injection h)
    rw [← (h i hi).1]
    simp [go_sem]
theorem OB.far {w : World} {b c : Nat} {out : Nat → Int} (h : OB w b out) (hc : b ≠ c) (k : Nat) (v : Value) : OB (w.setCell ⟨c, k, none⟩ v) b out := fun i hi => by
  have hh : (w.setCell ⟨c, k, none⟩ v).heap[b]? = w.heap[b]? := Below.heap_setCell w ⟨c, k, none⟩ v b hc
  exact ⟨(World.cell?_of_block (a := ⟨b, i, none⟩) hh).trans (h i hi).1, (World.frozen?_of_block (a := ⟨b, i, none⟩) hh).trans (h i hi).2⟩
theorem OB.new {w : World} {b : Nat} (hb : b = w.heap.size) (t : TypeId) : OB (w.alloc (.cells #[.int .u64 0, .int .u64 0, .int .u64 0, .int .u64 0, .int .u64 0, .int .u64 0, .int .u64 0, .int .u64 0, .int .u64 0, .int .u64 0] t)) b (fun _ => 0) := fun i hi => by
  subst hb
  rcases (show i = 0 ∨ i = 1 ∨ i = 2 ∨ i = 3 ∨ i = 4 ∨ i = 5 ∨ i = 6 ∨ i = 7 ∨ i = 8 ∨ i = 9 from by omega) with rfl | rfl | rfl | rfl | rfl | rfl | rfl | rfl | rfl | rfl <;> simp [go_sem]
theorem wrap_word (x : Int) : Word (IntKind.u64.wrap x) := by
  simp [IntKind.wrap, IntKind.signed, IntKind.bits, Word]
  omega
theorem nF_word (t : ByteArray) : Word (nF t) := by
  unfold nF
  split
  · exact ⟨Int.le_refl 0, by omega⟩
  · cases szF t - 1 with
    | zero => show Word ((topF t : Int) % 64); exact ⟨by omega, by omega⟩
    | succ j => exact wrap_word _
theorem rest_sz (s : ByteArray) (h : s.size ≤ 9223372036854775807) : (restF s).size ≤ 9223372036854775807 := Nat.le_trans (rest_le s) h
theorem toList_nil (t : ByteArray) (h : t.size = 0) : t.toList = [] := by
  rw [ByteArray.toList_eq]
  have h2 : t.data.toList.length = 0 := by rw [Array.length_toList]; exact h
  exact List.eq_nil_of_length_eq_zero h2
set_option maxRecDepth 100000 in
set_option maxHeartbeats 8000000 in
theorem nums_ok : NumsOk numsF := by
  intro t w ht
  go_enter Try.func24, Try.ntmps24
  go_wp2_with fail
  have hv0 : OB ((w.alloc (.cells #[.int .u64 0, .int .u64 0, .int .u64 0, .int .u64 0, .int .u64 0, .int .u64 0, .int .u64 0, .int .u64 0, .int .u64 0, .int .u64 0] 53)).alloc (.cells #[.int .u64 0, .int .u64 0, .int .u64 0, .int .u64 0, .int .u64 0, .int .u64 0, .int .u64 0, .int .u64 0, .int .u64 0, .int .u64 0] 53)) w.heap.size (fun _ => 0) := (OB.new rfl 53).below ((Below.refl _ _).alloc (Nat.le_refl _) _)
  have hv1 := OB.new (w := w.alloc (.cells #[.int .u64 0, .int .u64 0, .int .u64 0, .int .u64 0, .int .u64 0, .int .u64 0, .int .u64 0, .int .u64 0, .int .u64 0, .int .u64 0] 53)) (b := w.heap.size + 1) (by simp) 53
  go_loopw [0] (fun u wr => ∃ (s : ByteArray) (out : Nat → Int), u = .string s ∧ s.size ≤ t.size ∧ OB wr (w.heap.size + 1) out ∧ OB wr w.heap.size (fun _ => 0) ∧ Below w.heap.size w wr ∧ Hid (∃ f, s.size < f ∧ numsL f s out = numsF t)) (fun u _ => (match u with | .string s => s.size | _ => 0))
  case atStart => exact ⟨t, fun _ => 0, rfl, Nat.le_refl _, hv1, hv0, by go_grown, ⟨t.size + 1, by omega, rfl⟩⟩
  case round =>
    obtain ⟨s, out, rfl, hsz, ho1, ho0, hbel, hinv⟩ := hrel
    have hBl := Lib.hid hbel
    have hO1 := Lib.hid ho1
    have hO0 := Lib.hid ho0
    have hss : s.size ≤ 9223372036854775807 := by omega
    have hl1 := ho1.lt
    have hl0 := ho0.lt
    clear hbel ho1 ho0 hv0 hv1
    have hfin : ∀ (wy : World), OB wy (w.heap.size + 1) out → OB wy w.heap.size (fun _ => 0) → Below w.heap.size w wy → numsF t = out → True := fun _ _ _ _ _ => trivial
    by_cases h0 : s.size = 0
    · have hnil := toList_nil s h0
      have he : Hid (numsF t = out) := by
        obtain ⟨f, -, h⟩ := hinv.out
        exact h.symm.trans (nums_stop (.inl h0))
      have P0 := (hO1.out 0 (by omega)).1
      have P1 := (hO1.out 1 (by omega)).1
      have P2 := (hO1.out 2 (by omega)).1
      have P3 := (hO1.out 3 (by omega)).1
      have P4 := (hO1.out 4 (by omega)).1
      have P5 := (hO1.out 5 (by omega)).1
      have P6 := (hO1.out 6 (by omega)).1
      have P7 := (hO1.out 7 (by omega)).1
      have P8 := (hO1.out 8 (by omega)).1
      have P9 := (hO1.out 9 (by omega)).1
      have Q0 := (hO0.out 0 (by omega)).1
      have R0 := (hO0.out 0 (by omega)).2
      have Q1 := (hO0.out 1 (by omega)).1
      have R1 := (hO0.out 1 (by omega)).2
      have Q2 := (hO0.out 2 (by omega)).1
      have R2 := (hO0.out 2 (by omega)).2
      have Q3 := (hO0.out 3 (by omega)).1
      have R3 := (hO0.out 3 (by omega)).2
      have Q4 := (hO0.out 4 (by omega)).1
      have R4 := (hO0.out 4 (by omega)).2
      have Q5 := (hO0.out 5 (by omega)).1
      have R5 := (hO0.out 5 (by omega)).2
      have Q6 := (hO0.out 6 (by omega)).1
      have R6 := (hO0.out 6 (by omega)).2
      have Q7 := (hO0.out 7 (by omega)).1
      have R7 := (hO0.out 7 (by omega)).2
      have Q8 := (hO0.out 8 (by omega)).1
      have R8 := (hO0.out 8 (by omega)).2
      have Q9 := (hO0.out 9 (by omega)).1
      have R9 := (hO0.out 9 (by omega)).2
      go_wp2_with fail
      refine bodyPost_ret (by simp [results, Try.results24, go_sem, Q0, Q1, Q2, Q3, Q4, Q5, Q6, Q7, Q8, Q9]; try rfl) rfl ?_
      exact ⟨by rw [he.out], ((((((((((hBl.out.setCell (p := ⟨w.heap.size, 0, none⟩) (Nat.le_refl _) _).setCell (p := ⟨w.heap.size, 1, none⟩) (Nat.le_refl _) _).setCell (p := ⟨w.heap.size, 2, none⟩) (Nat.le_refl _) _).setCell (p := ⟨w.heap.size, 3, none⟩) (Nat.le_refl _) _).setCell (p := ⟨w.heap.size, 4, none⟩) (Nat.le_refl _) _).setCell (p := ⟨w.heap.size, 5, none⟩) (Nat.le_refl _) _).setCell (p := ⟨w.heap.size, 6, none⟩) (Nat.le_refl _) _).setCell (p := ⟨w.heap.size, 7, none⟩) (Nat.le_refl _) _).setCell (p := ⟨w.heap.size, 8, none⟩) (Nat.le_refl _) _).setCell (p := ⟨w.heap.size, 9, none⟩) (Nat.le_refl _) _)⟩
    · have hne := toList_ne s (by omega)
      have hne1 : ¬ s.toList = [] := by intro e; rw [e] at hne; cases hne
      go_upto_region 4 with (go_at_call 29; refine (number_any s hss _).mono ?_; rintro r w1 ⟨rfl, hb1⟩; have hB1 := Lib.hid hb1; clear hb1)
      go_upto_region 5 with (go_at_call 29; refine (number_any (restF s) (rest_sz s hss) _).mono ?_; rintro r w2 ⟨rfl, hb2⟩; have hB2 := Lib.hid hb2; clear hb2)
      have hO1' := Lib.hid ((hO1.out.below hB1.out).below hB2.out)
      have hO0' := Lib.hid ((hO0.out.below hB1.out).below hB2.out)
      have hBl' := Lib.hid (next (next hBl.out hB1.out hBl.out.size) hB2.out (Nat.le_trans hBl.out.size hB1.out.size))
      have hr2 : (rest2F s).size ≤ 9223372036854775807 := rest_sz _ (rest_sz s hss)
      have hwl : IntKind.u64.wrap ((rest2F s).size : Int) = (rest2F s).size := IntWalk.u64_in _ ⟨by omega, by omega⟩
      have hst : Hid (stopN s = (badN s || badN (restF s) || decide (((rest2F s).size : Int) < nF (restF s)))) := rfl
      have hge : (rest2F s).size ≤ t.size := Nat.le_trans (rest_le _) (Nat.le_trans (rest_le s) hsz)
      have hr2' : Hid (restF (restF s) = rest2F s) := rfl
      have hout : Hid (outN s out = if nF s < 10 then fun (i : Nat) => if (i : Int) = nF s then nF ((rest2F s).extract 0 (nF (restF s)).toNat) else out i else out) := rfl
      have hnx : Hid (nextN s = (rest2F s).extract (nF (restF s)).toNat (rest2F s).size) := rfl
      have hstop : stopN s = true → Hid (numsF t = out) := fun h => by
        obtain ⟨f, -, h'⟩ := hinv.out
        exact h'.symm.trans (nums_stop (.inr h))
      have hgo : stopN s = false → Hid (∃ f, (nextN s).size < f ∧ numsL f (nextN s) (outN s out) = numsF t) := fun h => by
        obtain ⟨f, hf, h'⟩ := hinv.out
        obtain ⟨f', h1, h2⟩ := nums_go (out := out) (f := f) (s := s) (fun h2 => by rcases h2 with h2 | h2; exact h0 h2; rw [h] at h2; cases h2) hf
        exact ⟨f', h1, h2.symm.trans h'⟩
      have hnl : stopN s = false → Hid ((nextN s).size < s.size) := fun h => next_lt h
      have hwi := nF_word s
      have hwz := nF_word (restF s)
      have hwi0 := hwi.1
      have hwz0 := hwz.1
      have hz3 := fun (w : World) => number_any ((rest2F s).extract 0 (nF (restF s)).toNat) (by simp; omega) w
      have hz4 := Lib.hid hz3
      clear hz3
      rw [hr2'.out]
      generalize badN s = b1 at *
      generalize badN (restF s) = b2 at *
      generalize nF s = id at *
      generalize nF (restF s) = sz at *
      generalize rest2F s = r2 at *
      generalize stopN s = st at *
      generalize outN s out = out' at *
      generalize nextN s = s' at *
      cases b1
      case true =>
        have he := hstop (by rw [hst.out]; rfl)
        clear hgo hstop
        have P0 := (hO1'.out 0 (by omega)).1
        have P1 := (hO1'.out 1 (by omega)).1
        have P2 := (hO1'.out 2 (by omega)).1
        have P3 := (hO1'.out 3 (by omega)).1
        have P4 := (hO1'.out 4 (by omega)).1
        have P5 := (hO1'.out 5 (by omega)).1
        have P6 := (hO1'.out 6 (by omega)).1
        have P7 := (hO1'.out 7 (by omega)).1
        have P8 := (hO1'.out 8 (by omega)).1
        have P9 := (hO1'.out 9 (by omega)).1
        have Q0 := (hO0'.out 0 (by omega)).1
        have R0 := (hO0'.out 0 (by omega)).2
        have Q1 := (hO0'.out 1 (by omega)).1
        have R1 := (hO0'.out 1 (by omega)).2
        have Q2 := (hO0'.out 2 (by omega)).1
        have R2 := (hO0'.out 2 (by omega)).2
        have Q3 := (hO0'.out 3 (by omega)).1
        have R3 := (hO0'.out 3 (by omega)).2
        have Q4 := (hO0'.out 4 (by omega)).1
        have R4 := (hO0'.out 4 (by omega)).2
        have Q5 := (hO0'.out 5 (by omega)).1
        have R5 := (hO0'.out 5 (by omega)).2
        have Q6 := (hO0'.out 6 (by omega)).1
        have R6 := (hO0'.out 6 (by omega)).2
        have Q7 := (hO0'.out 7 (by omega)).1
        have R7 := (hO0'.out 7 (by omega)).2
        have Q8 := (hO0'.out 8 (by omega)).1
        have R8 := (hO0'.out 8 (by omega)).2
        have Q9 := (hO0'.out 9 (by omega)).1
        have R9 := (hO0'.out 9 (by omega)).2
        go_wp2_with fail
        refine bodyPost_ret (by simp [results, Try.results24, go_sem, Q0, Q1, Q2, Q3, Q4, Q5, Q6, Q7, Q8, Q9]; try rfl) rfl ?_
        exact ⟨by rw [he.out], ((((((((((hBl'.out.setCell (p := ⟨w.heap.size, 0, none⟩) (Nat.le_refl _) _).setCell (p := ⟨w.heap.size, 1, none⟩) (Nat.le_refl _) _).setCell (p := ⟨w.heap.size, 2, none⟩) (Nat.le_refl _) _).setCell (p := ⟨w.heap.size, 3, none⟩) (Nat.le_refl _) _).setCell (p := ⟨w.heap.size, 4, none⟩) (Nat.le_refl _) _).setCell (p := ⟨w.heap.size, 5, none⟩) (Nat.le_refl _) _).setCell (p := ⟨w.heap.size, 6, none⟩) (Nat.le_refl _) _).setCell (p := ⟨w.heap.size, 7, none⟩) (Nat.le_refl _) _).setCell (p := ⟨w.heap.size, 8, none⟩) (Nat.le_refl _) _).setCell (p := ⟨w.heap.size, 9, none⟩) (Nat.le_refl _) _)⟩
      case false =>
      cases b2
      case true =>
        have he := hstop (by rw [hst.out]; rfl)
        clear hgo hstop
        have P0 := (hO1'.out 0 (by omega)).1
        have P1 := (hO1'.out 1 (by omega)).1
        have P2 := (hO1'.out 2 (by omega)).1
        have P3 := (hO1'.out 3 (by omega)).1
        have P4 := (hO1'.out 4 (by omega)).1
        have P5 := (hO1'.out 5 (by omega)).1
        have P6 := (hO1'.out 6 (by omega)).1
        have P7 := (hO1'.out 7 (by omega)).1
        have P8 := (hO1'.out 8 (by omega)).1
        have P9 := (hO1'.out 9 (by omega)).1
        have Q0 := (hO0'.out 0 (by omega)).1
        have R0 := (hO0'.out 0 (by omega)).2
        have Q1 := (hO0'.out 1 (by omega)).1
        have R1 := (hO0'.out 1 (by omega)).2
        have Q2 := (hO0'.out 2 (by omega)).1
        have R2 := (hO0'.out 2 (by omega)).2
        have Q3 := (hO0'.out 3 (by omega)).1
        have R3 := (hO0'.out 3 (by omega)).2
        have Q4 := (hO0'.out 4 (by omega)).1
        have R4 := (hO0'.out 4 (by omega)).2
        have Q5 := (hO0'.out 5 (by omega)).1
        have R5 := (hO0'.out 5 (by omega)).2
        have Q6 := (hO0'.out 6 (by omega)).1
        have R6 := (hO0'.out 6 (by omega)).2
        have Q7 := (hO0'.out 7 (by omega)).1
        have R7 := (hO0'.out 7 (by omega)).2
        have Q8 := (hO0'.out 8 (by omega)).1
        have R8 := (hO0'.out 8 (by omega)).2
        have Q9 := (hO0'.out 9 (by omega)).1
        have R9 := (hO0'.out 9 (by omega)).2
        go_wp2_with fail
        refine bodyPost_ret (by simp [results, Try.results24, go_sem, Q0, Q1, Q2, Q3, Q4, Q5, Q6, Q7, Q8, Q9]; try rfl) rfl ?_
        exact ⟨by rw [he.out], ((((((((((hBl'.out.setCell (p := ⟨w.heap.size, 0, none⟩) (Nat.le_refl _) _).setCell (p := ⟨w.heap.size, 1, none⟩) (Nat.le_refl _) _).setCell (p := ⟨w.heap.size, 2, none⟩) (Nat.le_refl _) _).setCell (p := ⟨w.heap.size, 3, none⟩) (Nat.le_refl _) _).setCell (p := ⟨w.heap.size, 4, none⟩) (Nat.le_refl _) _).setCell (p := ⟨w.heap.size, 5, none⟩) (Nat.le_refl _) _).setCell (p := ⟨w.heap.size, 6, none⟩) (Nat.le_refl _) _).setCell (p := ⟨w.heap.size, 7, none⟩) (Nat.le_refl _) _).setCell (p := ⟨w.heap.size, 8, none⟩) (Nat.le_refl _) _).setCell (p := ⟨w.heap.size, 9, none⟩) (Nat.le_refl _) _)⟩
      case false =>
      by_cases hbig : (r2.size : Int) < sz
      · have he := hstop (by rw [hst.out, decide_eq_true hbig]; rfl)
        clear hgo hstop
        have P0 := (hO1'.out 0 (by omega)).1
        have P1 := (hO1'.out 1 (by omega)).1
        have P2 := (hO1'.out 2 (by omega)).1
        have P3 := (hO1'.out 3 (by omega)).1
        have P4 := (hO1'.out 4 (by omega)).1
        have P5 := (hO1'.out 5 (by omega)).1
        have P6 := (hO1'.out 6 (by omega)).1
        have P7 := (hO1'.out 7 (by omega)).1
        have P8 := (hO1'.out 8 (by omega)).1
        have P9 := (hO1'.out 9 (by omega)).1
        have Q0 := (hO0'.out 0 (by omega)).1
        have R0 := (hO0'.out 0 (by omega)).2
        have Q1 := (hO0'.out 1 (by omega)).1
        have R1 := (hO0'.out 1 (by omega)).2
        have Q2 := (hO0'.out 2 (by omega)).1
        have R2 := (hO0'.out 2 (by omega)).2
        have Q3 := (hO0'.out 3 (by omega)).1
        have R3 := (hO0'.out 3 (by omega)).2
        have Q4 := (hO0'.out 4 (by omega)).1
        have R4 := (hO0'.out 4 (by omega)).2
        have Q5 := (hO0'.out 5 (by omega)).1
        have R5 := (hO0'.out 5 (by omega)).2
        have Q6 := (hO0'.out 6 (by omega)).1
        have R6 := (hO0'.out 6 (by omega)).2
        have Q7 := (hO0'.out 7 (by omega)).1
        have R7 := (hO0'.out 7 (by omega)).2
        have Q8 := (hO0'.out 8 (by omega)).1
        have R8 := (hO0'.out 8 (by omega)).2
        have Q9 := (hO0'.out 9 (by omega)).1
        have R9 := (hO0'.out 9 (by omega)).2
        go_wp2_with fail
        refine bodyPost_ret (by simp [results, Try.results24, go_sem, Q0, Q1, Q2, Q3, Q4, Q5, Q6, Q7, Q8, Q9]; try rfl) rfl ?_
        exact ⟨by rw [he.out], ((((((((((hBl'.out.setCell (p := ⟨w.heap.size, 0, none⟩) (Nat.le_refl _) _).setCell (p := ⟨w.heap.size, 1, none⟩) (Nat.le_refl _) _).setCell (p := ⟨w.heap.size, 2, none⟩) (Nat.le_refl _) _).setCell (p := ⟨w.heap.size, 3, none⟩) (Nat.le_refl _) _).setCell (p := ⟨w.heap.size, 4, none⟩) (Nat.le_refl _) _).setCell (p := ⟨w.heap.size, 5, none⟩) (Nat.le_refl _) _).setCell (p := ⟨w.heap.size, 6, none⟩) (Nat.le_refl _) _).setCell (p := ⟨w.heap.size, 7, none⟩) (Nat.le_refl _) _).setCell (p := ⟨w.heap.size, 8, none⟩) (Nat.le_refl _) _).setCell (p := ⟨w.heap.size, 9, none⟩) (Nat.le_refl _) _)⟩
      · have he := hgo (by rw [hst.out, decide_eq_false hbig]; rfl)
        have hnl' := hnl (by rw [hst.out, decide_eq_false hbig]; rfl)
        clear hgo hstop hnl
        have hsz2 : sz.toNat ≤ r2.size := by omega
        have hs' : Hid (s'.size ≤ t.size) := by
          show _ ≤ _
          rw [hnx.out]
          simp
          omega
        have hms : Hid ((r2.extract sz.toNat r2.size).size < s.size) := by
          show _ < _
          rw [← hnx.out]
          exact hnl'.out
        clear hnl'
        by_cases hid : id < 10
        · obtain ⟨k, rfl⟩ : ∃ k : Nat, id = k := ⟨id.toNat, by omega⟩
          have hk : k < 10 := by omega
          have hd := decide_eq_true hid
          have ho' : Hid (out' = fun i => if i = k then nF (r2.extract 0 sz.toNat) else out i) := by
            show _ = _
            rw [hout.out, if_pos hid]
            funext i
            by_cases e : i = k
            · rw [if_pos (by omega), if_pos e]
            · rw [if_neg (by omega), if_neg e]
          go_wp2_with (go_at_call 29; refine (hz4.out _).mono ?_; rintro r w3 ⟨rfl, hb3⟩; have hB3 := Lib.hid hb3; have hO1x := Lib.hid (hO1'.out.below hb3); have Pk := (hO1x.out k hk).1; have Rk := (hO1x.out k hk).2; clear hb3)
          go_roundw
          case rel =>
            refine ⟨s', out', by rw [hnx.out], hs'.out, ?_, (hO0'.out.below hB3.out).far (by omega) _ _, (next hBl'.out hB3.out hBl'.out.size).setCell (by show w.heap.size ≤ w.heap.size + 1; omega) _, he⟩
            rw [ho'.out]
            exact hO1x.out.set k hk _
          case measure => exact hms.out
        · have hd := decide_eq_false hid
          have ho' : Hid (out' = out) := hout.out.trans (if_neg hid)
          go_wp2_with fail
          go_roundw
          case rel => exact ⟨s', out', by rw [hnx.out], hs'.out, by rw [ho'.out]; exact hO1'.out, hO0'.out, hBl'.out, he⟩
          case measure => exact hms.out
end Go.Proofs.Ytiefkpfjmbifcaa

/-
  How far all streams but one were sent: the walk over the map, in whatever order.
-/
import Derived.Test.YtiefkpfjmbifcaaW4
import Derived.Maps.RangeWalk
import Derived.LaidEqlPtr
namespace Go.Proofs.Ytiefkpfjmbifcaa
open Go.RowKit Go.Maps

def sumF (s : St) (id : Int) : Int := IntKind.u64.wrap (s.total - (s.strm id).sent)
/-- What was added up. -/
def part (f : Int → Int) (id : Int) (left : Lit → Bool) : List Int → Int
  | [] => 0
  | i :: l => (if left (.int .u64 i) = true ∨ i = id then 0 else f i) + part f id left l
theorem part_start (f : Int → Int) (id : Int) (left : Lit → Bool) : ∀ l : List Int, (∀ i ∈ l, left (.int .u64 i) = true) → part f id left l = 0
  | [], _ => rfl
  | i :: l, h => by
    rw [part, if_pos (.inl (h i (by simp))), part_start f id left l (fun j hj => h j (by simp [hj]))]
    rfl
theorem part_end (f : Int → Int) (id : Int) (left : Lit → Bool) (hl : ∀ k, left k = false) : ∀ l : List Int, l.Nodup → part f id left l = (l.map f).sum - if id ∈ l then f id else 0
  | [], _ => by simp [part]
  | i :: l, hn => by
    obtain ⟨h1, h2⟩ := List.nodup_cons.1 hn
    rw [part, part_end f id left hl l h2, hl]
    by_cases e : i = id
    · subst e
      simp [h1]
      omega
    · have e' : ¬ id = i := fun h => e h.symm
      simp [e, e']
      omega
theorem part_other (f : Int → Int) (id x : Int) (left : Lit → Bool) : ∀ l : List Int, x ∉ l → part f id (fun z => left z && !z.sameKey (.int .u64 x)) l = part f id left l
  | [], _ => rfl
  | i :: l, h => by
    have hi : ¬ i = x := fun e => h (by simp [e])
    have hs : (Lit.int .u64 i).sameKey (.int .u64 x) = false := Maps.sameKey_ne (fun e => hi (by injection e))
    simp only [part, hs, Bool.not_false, Bool.and_true]
    rw [part_other f id x left l (fun e => h (by simp [e]))]
theorem part_step (f : Int → Int) (id x : Int) (left : Lit → Bool) (hx : left (.int .u64 x) = true) : ∀ l : List Int, l.Nodup → x ∈ l → part f id (fun z => left z && !z.sameKey (.int .u64 x)) l = part f id left l + if x = id then 0 else f x
  | [], _, h => by simp at h
  | i :: l, hn, h => by
    obtain ⟨h1, h2⟩ := List.nodup_cons.1 hn
    by_cases e : i = x
    · subst e
      have hs : (Lit.int .u64 i).sameKey (.int .u64 i) = true := by simp [Lit.sameKey]
      simp only [part, hs, hx, Bool.not_true, Bool.and_false]
      rw [part_other f id i left l h1]
      simp
      omega
    · have hs : (Lit.int .u64 i).sameKey (.int .u64 x) = false := Maps.sameKey_ne (fun h => e (by injection h))
      have hm : x ∈ l := by
        rcases List.mem_cons.1 h with h3 | h3
        · exact absurd h3.symm e
        · exact h3
      simp only [part, hs, Bool.not_false, Bool.and_true]
      rw [part_step f id x left hx l h2 hm]
      omega
theorem wrap_add (a b : Int) : IntKind.u64.wrap (IntKind.u64.wrap a + b) = IntKind.u64.wrap (a + b) := by
  simp [IntKind.wrap, IntKind.signed, IntKind.bits]
theorem wrap_sub (a b : Int) : IntKind.u64.wrap (IntKind.u64.wrap a - b) = IntKind.u64.wrap (a - b) := by
  simp [IntKind.wrap, IntKind.signed, IntKind.bits]

theorem neq_other {w : World} {a b : Nat} (hne : a ≠ b) (ha : Row w a) (hb : Row w b) :
    (binOp .neq 62 (.pointer (some ⟨a, 0, none⟩)) (.pointer (some ⟨b, 0, none⟩))).run Try.prog w = .ok (.bool true) w := by
  obtain ⟨ca, ta, ha⟩ := ha
  obtain ⟨cb, tb, hb⟩ := hb
  obtain ⟨j, hj⟩ : ∃ j, Try.prog.info? 61 = some j := Option.isSome_iff_exists.1 (by kernel_rfl)
  have hsz : j.size ≠ 0 := by
    have h7 : (Try.prog.info? 61).map (·.size) = some 7 := by kernel_rfl
    rw [hj] at h7
    simp at h7
    omega
  have h : ∀ d : Nat, (Op.equalIn (d + 1) 62 (.pointer (some ⟨a, 0, none⟩)) (.pointer (some ⟨b, 0, none⟩))).run Try.prog w = .ok false w := fun d => by
    simp [Op.equalIn, run_underlying Try.underlying62, sizeOf, typeInfo, hj, hsz, run_sameAddr_other w (a := ⟨a, 0, none⟩) (b := ⟨b, 0, none⟩) (fun h => hne (by injection h)) ha hb]
  simp only [binOp]
  simp [Op.equal, Op.maxDepth, h 9999]
theorem neq_same {w : World} {a : Nat} : (binOp .neq 62 (.pointer (some ⟨a, 0, none⟩)) (.pointer (some ⟨a, 0, none⟩))).run Try.prog w = .ok (.bool false) w := by
  obtain ⟨j, hj⟩ : ∃ j, Try.prog.info? 61 = some j := Option.isSome_iff_exists.1 (by kernel_rfl)
  have h : ∀ d : Nat, (Op.equalIn (d + 1) 62 (.pointer (some ⟨a, 0, none⟩)) (.pointer (some ⟨a, 0, none⟩))).run Try.prog w = .ok true w := fun d => by
    simp [Op.equalIn, run_underlying Try.underlying62, sizeOf, typeInfo, hj, run_sameAddr_same]
  simp only [binOp]
  simp [Op.equal, Op.maxDepth, h 9999]
set_option maxRecDepth 100000 in
set_option maxHeartbeats 4000000 in
theorem sum_any {w : World} {M : Mem} {n : Nat} {s : St} (h : CK w M n s) {id : Int} {p : Nat} (hp : M.g id = some p) :
    Calls Try.prog 31 #[.pointer (some ⟨M.B, 0, none⟩), .pointer (some ⟨p, 0, none⟩)] w fun r w' => r = .returned (.int .u64 (sumF s id)) ∧ Below w.heap.size w w' := by
  obtain ⟨ids, hnd, hmem, htot⟩ := h.total
  obtain ⟨D, hown, hD⟩ := h.streams
  have hh := Lib.hid h
  have hmem0 := Lib.hid hmem
  have hD0 := Lib.hid hD
  obtain ⟨-, -, -, -, -, -, -, -, -, -, -, -, -, -, -, k24⟩ := h.cells
  have hB : M.B < w.heap.size := World.block_lt_of_cell? _ _ k24
  have hB1 : M.B ≠ w.heap.size := by omega
  clear h hmem hD
  go_enter Try.func31, Try.ntmps31
  go_wp2_with (first
    | (at_range; refine wpList_range_own _ rfl _ 50 rfl 33 62 law33 Try.underlying50 _ M.m5 n _ rfl hown ?_; intro w0 hrg0 hg0 hs0)
    | go_in)
  go_frame
  go_loopw [5] (fun v wr => ∃ (left : Lit → Bool) (cnt : Nat), wr.ranges Try.prog 33 Rv M.m5 w.heap.size n D left cnt ∧ Below w.heap.size w wr ∧ v = .int .u64 (IntKind.u64.wrap (part (fun i => (s.strm i).sent) id left ids))) (fun _ wr => wr.rangeLeft M.m5 w.heap.size)
  case atStart =>
    refine ⟨_, _, hrg0, (Below.refl _ w).grown hg0 (Nat.le_refl _) (fun k hk => by cases hk), ?_⟩
    rw [part_start]
    · rfl
    · intro i hi
      have := (hmem0.out i).1 hi
      cases hg : M.g i with
      | none => rw [hg] at this; cases this
      | some q => rw [(hD0.out i (hh.out.gword i q hg)).1]; exact this
  case round =>
    obtain ⟨left, cnt, hrg, hbel, rfl⟩ := hrel
    go_wp2_with (first
      | (at_next; refine wpList_next_ranges _ rfl _ rfl 33 law33 Rv (Value.int .u64) (fun v => v) (fun key kl hkey => by obtain ⟨x, rfl, _⟩ := Maps.keyOf_int_inv Try.underlying33 hkey; exact ⟨x, rfl⟩) (fun v y _ => ⟨v, rfl⟩) M.m5 w.heap.size n _ _ _ rfl hrg ?_ ?_)
      | go_in)
    · intro _ hl0
      have hf : IntKind.u64.wrap (part (fun i => (s.strm i).sent) id left ids) = sumF s id := by
        rw [part_end _ _ _ hl0 ids hnd, if_pos ((hmem0.out id).2 (by rw [hp]; rfl))]
        unfold sumF
        rw [htot, wrap_sub]
      rw [hf]
      clear hf htot hrg hown
      go_wp2
      go_ret
      exact ⟨rfl, hbel⟩
    · intro x c kl y1 y2 w1 cnt1 hkey hlx hv hat hrg1 hlt hg1 hs1 hen
      obtain ⟨x', ex, rfl, hwx⟩ := Maps.keyOf_int_inv Try.underlying33 hkey
      injection ex with _ ex
      subst ex
      have hwx' : Word x := by
        simp [Lit.wf, IntKind.min, IntKind.max, IntKind.signed, IntKind.bits] at hwx
        exact ⟨by omega, by omega⟩
      have hxm : (M.g x).isSome = true := by rw [← (hD0.out x hwx').1]; exact Maps.has_true_of_atKey hat
      obtain ⟨q, hq⟩ := Option.isSome_iff_exists.1 hxm
      have hy := (hD0.out x hwx').2 q hq
      rw [hat] at hy
      subst hy
      have hc : c = .pointer (some ⟨q, 0, none⟩) := Rv_ptr hv
      subst hc
      have hb1 : Below w.heap.size w w1 := hbel.grown hg1 hbel.size (fun k hk => by cases hk; exact Nat.le_refl _)
      have hstep := Lib.hid (part_step (fun i => (s.strm i).sent) id x left hlx ids hnd ((hmem0.out x).2 hxm))
      have hxo : M.owns q := .inr ⟨x, hq⟩
      have q1 : w1.cell? ⟨q, 1, none⟩ = some (.int .u64 (s.strm x).sent) := (hb1.cell (hh.out.lt hxo)).trans ((hh.out.strm x).1 q hq).1.2.1
      have hr1 := Lib.hid hrg1
      have ho := Lib.hid hrg
      rcases (show x = id ∨ x ≠ id from by omega) with e | e
      · have e2 : q = p := by rw [e, hp] at hq; injection hq with hq; exact hq.symm
        subst e2
        clear hv hat hrg1 hrg hkey
        have hn := neq_same (w := w1) (a := q)
        go_wp2_with fail
        go_roundw
        case rel => exact ⟨_, cnt1, hr1.out, hb1, by rw [hstep.out, if_pos e, Int.add_zero]⟩
        case measure => rw [hr1.out.left_eq, ho.out.left_eq]; exact hlt
      · have e2 : q ≠ p := fun e2 => e (hh.out.ginj x id q hq (e2 ▸ hp))
        have r1 : Row w1 q := (sb_block ((hh.out.strm x).1 q hq) (hb1.block _ (hh.out.lt hxo))).2.2
        have r2 : Row w1 p := (sb_block ((hh.out.strm id).1 p hp) (hb1.block _ (hh.out.lt (.inr ⟨id, hp⟩)))).2.2
        have hn := neq_other e2 r1 r2
        clear hv hat hrg1 hrg hkey r1 r2
        go_wp2_with fail
        go_roundw
        case rel => exact ⟨_, cnt1, hr1.out, hb1, by rw [hstep.out, if_neg e, wrap_add]⟩
        case measure => rw [hr1.out.left_eq, ho.out.left_eq]; exact hlt
end Go.Proofs.Ytiefkpfjmbifcaa

/-
  Whether a trace is right: the walk.
-/
import Derived.Test.YtiefkpfjmbifcaaW11z
import Derived.Test.YtiefkpfjmbifcaaW13
namespace Go.Proofs.Ytiefkpfjmbifcaa
open Go.RowKit Go.Maps

/-- A list of events in memory below B0. -/
def Evs (w : World) (B0 : Nat) (A : Option Addr) (n : Nat) (ev : Nat → Ev) : Prop :=
  ∀ k, k < n → ∃ b off, A = some ⟨b, off, none⟩ ∧ b < B0 ∧ (w.cell? ⟨b, off + k * 14, none⟩ = some (.int .i64 (ev k).k) ∧ w.cell? ⟨b, off + k * 14 + 1, none⟩ = some (.int .i64 (ev k).sp) ∧ w.cell? ⟨b, off + k * 14 + 2, none⟩ = some (.int .u64 (ev k).tm) ∧ w.cell? ⟨b, off + k * 14 + 3, none⟩ = some (.int .u64 (ev k).num) ∧ w.cell? ⟨b, off + k * 14 + 4, none⟩ = some (.int .u64 (ev k).many) ∧ w.cell? ⟨b, off + k * 14 + 5, none⟩ = some (.string (ev k).text) ∧ w.cell? ⟨b, off + k * 14 + 6, none⟩ = some (.int .u64 (ev k).f.k) ∧ w.cell? ⟨b, off + k * 14 + 7, none⟩ = some (.int .u64 (ev k).f.a) ∧ w.cell? ⟨b, off + k * 14 + 8, none⟩ = some (.int .u64 (ev k).f.b) ∧ w.cell? ⟨b, off + k * 14 + 9, none⟩ = some (.int .u64 (ev k).f.c) ∧ w.cell? ⟨b, off + k * 14 + 10, none⟩ = some (.bool (ev k).f.fin) ∧ w.cell? ⟨b, off + k * 14 + 11, none⟩ = some (.string (ev k).f.data) ∧ w.cell? ⟨b, off + k * 14 + 12, none⟩ = some (.string (ev k).f.more) ∧ w.cell? ⟨b, off + k * 14 + 13, none⟩ = some (.slice (ev k).f.la (ev k).f.ln (ev k).f.lc)) ∧ (ev k).Ok ∧ Rng w B0 (ev k).f.la (ev k).f.ln (ev k).f.rs
theorem Evs.below {w w' : World} {B0 : Nat} {A : Option Addr} {n : Nat} {ev : Nat → Ev} (h : Evs w B0 A n ev) (hb : Below B0 w w') : Evs w' B0 A n ev := fun k hk => by
  obtain ⟨b, off, e, hB, ⟨a0, a1, a2, a3, a4, a5, a6, a7, a8, a9, a10, a11, a12, a13⟩, ho, hr⟩ := h k hk
  exact ⟨b, off, e, hB, ⟨(hb.cell hB).trans a0, (hb.cell hB).trans a1, (hb.cell hB).trans a2, (hb.cell hB).trans a3, (hb.cell hB).trans a4, (hb.cell hB).trans a5, (hb.cell hB).trans a6, (hb.cell hB).trans a7, (hb.cell hB).trans a8, (hb.cell hB).trans a9, (hb.cell hB).trans a10, (hb.cell hB).trans a11, (hb.cell hB).trans a12, (hb.cell hB).trans a13⟩, ho, hr.below hb⟩
theorem Rng.up {w : World} {B0 B1 : Nat} {la : Option Addr} {ln : Nat} {rs : Nat → Int × Int} (h : Rng w B0 la ln rs) (hB : B0 ≤ B1) : Rng w B1 la ln rs := fun k hk => by
  obtain ⟨b, off, e, hb, r⟩ := h k hk
  exact ⟨b, off, e, Nat.lt_of_lt_of_le hb hB, r⟩
theorem Evs.up {w : World} {B0 B1 : Nat} {A : Option Addr} {n : Nat} {ev : Nat → Ev} (h : Evs w B0 A n ev) (hB : B0 ≤ B1) : Evs w B1 A n ev := fun k hk => by
  obtain ⟨b, off, e, hb, c, ho, hr⟩ := h k hk
  exact ⟨b, off, e, Nat.lt_of_lt_of_le hb hB, c, ho, hr.up hB⟩
def startF (side : Int) : St := ⟨if side = 1 then 1 else 0, 0, 0, 0, 0, 0, 0, 0, 0, fun _ => 0, fun _ _ => false, fun _ _ => false, fun _ _ => false, fun _ => 0, 0, fun _ => Strm.zero, 0⟩
def runF (N : ByteArray → Nat → Int) (side : Int) (ev : Nat → Ev) : Nat → St
  | 0 => startF side
  | j + 1 => learnF N (runF N side ev j) (ev j)
noncomputable def badF (N : ByteArray → Nat → Int) (side : Int) (ev : Nat → Ev) (j : Nat) : Int := brokenF (runF N side ev j) (ev j)
/-- What a trace is told to be. -/
def Verd (N : ByteArray → Nat → Int) (side : Int) (ev : Nat → Ev) (n : Nat) (ok : Bool) (rule at_ : Int) : Prop :=
  (ok = true ∧ rule = 0 ∧ at_ = 0 ∧ ∀ j, j < n → ¬ 0 < badF N side ev j) ∨
  (∃ j : Nat, j < n ∧ ok = false ∧ at_ = j ∧ rule = badF N side ev j ∧ 0 < badF N side ev j ∧ ∀ i, i < j → ¬ 0 < badF N side ev i)
def VB (w : World) (b : Nat) : Prop := w.cell? ⟨b, 0, none⟩ = some (.bool false) ∧ w.cell? ⟨b, 1, none⟩ = some (.int .i64 0) ∧ w.cell? ⟨b, 2, none⟩ = some (.int .i64 0) ∧ w.frozen? ⟨b, 0, none⟩ = false ∧ w.frozen? ⟨b, 1, none⟩ = false ∧ w.frozen? ⟨b, 2, none⟩ = false
theorem VB.block {w w' : World} {b : Nat} (h : VB w b) (hh : w'.heap[b]? = w.heap[b]?) : VB w' b := by
  have ec : ∀ i, w'.cell? ⟨b, i, none⟩ = w.cell? ⟨b, i, none⟩ := fun i => World.cell?_of_block (a := ⟨b, i, none⟩) hh
  have ef : ∀ i, w'.frozen? ⟨b, i, none⟩ = w.frozen? ⟨b, i, none⟩ := fun i => World.frozen?_of_block (a := ⟨b, i, none⟩) hh
  unfold VB
  simp only [ec, ef]
  exact h
theorem VB.lt {w : World} {b : Nat} (h : VB w b) : b < w.heap.size := World.block_lt_of_cell? _ _ h.1
theorem VB.start (w : World) (sd : Int) : VB (((((((w.alloc (.cells #[.bool false, .int .i64 0, .int .i64 0] 26)).alloc (.map #[] 0)).alloc (.map #[] 0)).alloc (.map #[] 0)).alloc (.map #[] 0)).alloc (.map #[] 0)).alloc (.cells #[.int .u64 sd, .int .u64 0, .int .u64 0, .int .i64 0, .int .u64 0, .int .u64 0, .int .i64 0, .int .i64 0, .int .u64 0, .map (some (w.heap.size + 1)), .map (some (w.heap.size + 1 + 1)), .map (some (w.heap.size + 1 + 1 + 1)), .map (some (w.heap.size + 1 + 1 + 1 + 1)), .int .u64 0, .int .u64 0, .int .u64 0, .int .u64 0, .int .u64 0, .int .u64 0, .int .u64 0, .int .u64 0, .int .u64 0, .int .u64 0, .int .u64 0, .map (some (w.heap.size + 1 + 1 + 1 + 1 + 1))] 55)) w.heap.size := by
  refine ⟨?_, ?_, ?_, ?_, ?_, ?_⟩ <;> simp [go_sem]
def mem0 (w : World) : Mem := ⟨w.heap.size + 1 + 1 + 1 + 1 + 1 + 1, w.heap.size + 1, w.heap.size + 1 + 1, w.heap.size + 1 + 1 + 1, w.heap.size + 1 + 1 + 1 + 1, w.heap.size + 1 + 1 + 1 + 1 + 1, fun _ => none⟩
theorem heap_before (w : World) (o : Obj) (k : Nat) (h : k < w.heap.size) : (w.alloc o).heap[k]? = w.heap[k]? := Below.heap_alloc w o k h
set_option maxHeartbeats 1000000 in
theorem CK.start (w : World) (side sd : Int) (hsd : sd = if side = 1 then 1 else 0) : CK (((((((w.alloc (.cells #[.bool false, .int .i64 0, .int .i64 0] 26)).alloc (.map #[] 0)).alloc (.map #[] 0)).alloc (.map #[] 0)).alloc (.map #[] 0)).alloc (.map #[] 0)).alloc (.cells #[.int .u64 sd, .int .u64 0, .int .u64 0, .int .i64 0, .int .u64 0, .int .u64 0, .int .i64 0, .int .i64 0, .int .u64 0, .map (some (w.heap.size + 1)), .map (some (w.heap.size + 1 + 1)), .map (some (w.heap.size + 1 + 1 + 1)), .map (some (w.heap.size + 1 + 1 + 1 + 1)), .int .u64 0, .int .u64 0, .int .u64 0, .int .u64 0, .int .u64 0, .int .u64 0, .int .u64 0, .int .u64 0, .int .u64 0, .int .u64 0, .int .u64 0, .map (some (w.heap.size + 1 + 1 + 1 + 1 + 1))] 55)) (mem0 w) 0 (startF side) := by
  have b : ∀ (x : World) (o o' : Obj) , True := fun _ _ _ => trivial
  have hsz : ∀ (x : World) (o : Obj), (x.alloc o).heap.size = x.heap.size + 1 := fun x o => by simp
  refine { cells := ?_, free := fun i _ => ?_, nd := ?_, gfar := (fun _ _ h => by cases h), ginj := (fun _ _ _ h => by cases h), gword := (fun _ _ h => by cases h), sent := ?_, asks := ?_, got := ?_, settled := ?_, streams := ?_, strm := fun id => ⟨(fun _ h => by cases h), fun _ => rfl⟩, total := ⟨[], List.nodup_nil, fun id => by simp [mem0], rfl⟩, going := ⟨⟨by show (-9223372036854775808 : Int) ≤ 0; omega, by show (0 : Int) ≤ 9223372036854775807; omega⟩, ⟨Int.le_refl 0, by show (0 : Int) < 18446744073709551616; omega⟩⟩ }
  · unfold Cells
    simp [mem0, go_sem, startF, hsd]
  · simp [mem0, go_sem]
  · simp [mem0, Mem.fix] <;> omega
  · refine (MapU.made (w.alloc (.cells #[.bool false, .int .i64 0, .int .i64 0] 26))).block ?_ |> fun h => by simpa [mem0, startF] using h
    repeat rw [heap_before _ _ _ (by simp [hsz] <;> omega)]
  · refine (MapB.made ((w.alloc (.cells #[.bool false, .int .i64 0, .int .i64 0] 26)).alloc (.map #[] 0))).block ?_ |> fun h => by simpa [mem0, startF] using h
    repeat rw [heap_before _ _ _ (by simp [hsz] <;> omega)]
  · refine (MapB.made (((w.alloc (.cells #[.bool false, .int .i64 0, .int .i64 0] 26)).alloc (.map #[] 0)).alloc (.map #[] 0))).block ?_ |> fun h => by simpa [mem0, startF] using h
    repeat rw [heap_before _ _ _ (by simp [hsz] <;> omega)]
  · refine (MapB.made ((((w.alloc (.cells #[.bool false, .int .i64 0, .int .i64 0] 26)).alloc (.map #[] 0)).alloc (.map #[] 0)).alloc (.map #[] 0))).block ?_ |> fun h => by simpa [mem0, startF] using h
    repeat rw [heap_before _ _ _ (by simp [hsz] <;> omega)]
  · refine (MapP.made (((((w.alloc (.cells #[.bool false, .int .i64 0, .int .i64 0] 26)).alloc (.map #[] 0)).alloc (.map #[] 0)).alloc (.map #[] 0)).alloc (.map #[] 0))).block ?_ |> fun h => by simpa [mem0, startF] using h
    repeat rw [heap_before _ _ _ (by simp [hsz] <;> omega)]

def TPost (N : ByteArray → Nat → Int) (side : Int) (ev : Nat → Ev) (ln : Nat) (w : World) (r : Ending) (w' : World) : Prop :=
  ∃ ok rule at_, r = .returned (.agg #[.bool ok, .int .i64 rule, .int .i64 at_]) ∧ Verd N side ev ln ok rule at_ ∧ Below w.heap.size w w'
/-- What is known at the head of a trace's round. -/
def TL (N : ByteArray → Nat → Int) (side : Int) (ev : Nat → Ev) (w : World) (j : Nat) (wr : World) : Prop :=
  ∃ g', CK wr { mem0 w with g := g' } (5 * j) (runF N side ev j) ∧ VB wr w.heap.size ∧ Below w.heap.size w wr ∧ (∀ b, ({ mem0 w with g := g' } : Mem).owns b → w.heap.size < b)
theorem ev_any (e : Ev) : evV e = .agg #[.int .i64 e.k, .int .i64 e.sp, .int .u64 e.tm, .int .u64 e.num, .int .u64 e.many, .string e.text, .int .u64 e.f.k, .int .u64 e.f.a, .int .u64 e.f.b, .int .u64 e.f.c, .bool e.f.fin, .string e.f.data, .string e.f.more, .slice e.f.la e.f.ln e.f.lc] := rfl
theorem grew_up {w wx : World} {M M' : Mem} (hw : w.heap.size < wx.heap.size) (h : ∀ b, M.owns b → w.heap.size < b) (hg : Grew wx M M') : ∀ b, M'.owns b → w.heap.size < b := fun b hb => by
  rcases hg.2.2.1 b hb with h1 | h1
  · exact h b h1
  · omega
set_option maxRecDepth 100000 in
set_option maxHeartbeats 8000000 in
theorem trace_any {N : ByteArray → Nat → Int} (hN : NumsOk N) (side : Int) (A : Option Addr) (ln lc : Nat) (ev : Nat → Ev) (w : World) (hx : Evs w w.heap.size A ln ev) (hln : ln ≤ 120) :
    Calls Try.prog 10 #[.int .i64 side, .slice A ln lc] w (TPost N side ev ln w) := by
  have hmm := @run_makeMap Try.prog
  have hN0 := Lib.hid hN
  clear hN
  have hsd : (side = 1 ∧ (if side = 1 then (1 : Int) else 0) = 1) ∨ (side ≠ 1 ∧ (if side = 1 then (1 : Int) else 0) = 0) := by
    by_cases h : side = 1
    · exact .inl ⟨h, if_pos h⟩
    · exact .inr ⟨h, if_neg h⟩
  have hsd2 : ∃ (q : Bool) (sd : Int), (side == 1) = q ∧ (if side = 1 then (1 : Int) else 0) = sd ∧ ((q = true ∧ sd = 1) ∨ (q = false ∧ sd = 0)) := by
    rcases hsd with ⟨h, hsd⟩ | ⟨h, hsd⟩
    · exact ⟨true, 1, btt h, hsd, .inl ⟨rfl, rfl⟩⟩
    · exact ⟨false, 0, bnf h, hsd, .inr ⟨rfl, rfl⟩⟩
  clear hsd
  obtain ⟨q, sd, hs', hsd, hq⟩ := hsd2
  rcases hq with ⟨rfl, rfl⟩ | ⟨rfl, rfl⟩
  all_goals
    have hS := Lib.hid (CK.start w _ _ hsd.symm)
    clear hsd
    have hV := Lib.hid (VB.start w)
    have hO : Hid (∀ b, (mem0 w).owns b → w.heap.size < b) := by
      intro b hb
      rcases hb with hb | ⟨_, hb⟩
      · simp [mem0, Mem.fix] at hb
        omega
      · cases hb
    go_enter Try.func10, Try.ntmps10
    go_wp2_with fail
    go_loopw [23] (fun v wr => ∃ j : Nat, j ≤ ln ∧ v = .int .i64 j ∧ TL N side ev w j wr ∧ Hid (∀ i, i < j → ¬ 0 < badF N side ev i)) (fun v _ => ln - (intOf v).toNat)
    case atStart => exact ⟨0, by omega, by simp, ⟨_, hS.out, hV.out _, by go_grown, hO.out⟩, fun i hi => by omega⟩
    case round =>
      obtain ⟨j, hj, rfl, ⟨g0, hc, hvb, hbel, how⟩, hall⟩ := hrel
      have hC := Lib.hid hc
      have hVb := Lib.hid hvb
      have hBl := Lib.hid hbel
      have hOw := Lib.hid how
      have hsz : w.heap.size < wr.heap.size := hvb.lt
      clear hc hvb hbel how
      by_cases hlt : j < ln
      · obtain ⟨b, off, rfl, hbB, ⟨a0, a1, a2, a3, a4, a5, a6, a7, a8, a9, a10, a11, a12, a13⟩, hok, hrng⟩ := (hx.below hBl.out) j hlt
        have hok0 := Lib.hid hok
        have hrng0 := Lib.hid hrng
        have hbl : b < wr.heap.size := by omega
        clear hok hrng
        have hW := Lib.hid (hC.out.alloc (.cells #[.int .i64 (ev j).k, .int .i64 (ev j).sp, .int .u64 (ev j).tm, .int .u64 (ev j).num, .int .u64 (ev j).many, .string (ev j).text, .int .u64 (ev j).f.k, .int .u64 (ev j).f.a, .int .u64 (ev j).f.b, .int .u64 (ev j).f.c, .bool (ev j).f.fin, .string (ev j).f.data, .string (ev j).f.more, .slice (ev j).f.la (ev j).f.ln (ev j).f.lc] 38))
        have hE := Lib.hid (EVB.new (w := wr) (b := wr.heap.size) rfl (ev j) 38)
        have hfar := hC.out.far (Nat.le_refl _)
        have hbr := Lib.hid (broken_any hW.out (ev j) hok0.out (by unfold maxLen; omega) (B0 := w.heap.size) (by simp <;> omega) (hrng0.out.below (((Below.refl _ _).alloc (by omega) _))))
        have hbad : Hid (brokenF (runF N side ev j) (ev j) = badF N side ev j) := rfl
        rw [hbad.out] at hbr
        rw [ev_any] at hbr
        by_cases hpos : 0 < badF N side ev j
        · have hp0 := Lib.hid hpos
          have hp1 := decide_eq_true hpos
          clear hpos
          go_wp2_with (go_at_call 12; refine hbr.out.mono ?_; rintro r w1 ⟨rfl, g1, hg⟩; have hC1 := Lib.hid hg; have hEk := Lib.hid (hE.out.kept hg.2.1 hfar); have hVk := hVb.out.block ((hg.2.1.2 _ (by simp <;> omega) (fun ho => by have := hOw.out _ ho; omega)).trans (Below.heap_alloc _ _ _ hsz)); obtain ⟨e0, e1, e2, e3, e4, e5, e6, e7, e8, e9, e10, e11, e12, e13⟩ := hEk.out; obtain ⟨v0, v1, v2, u0, u1, u2⟩ := hVk; have hVk0 := Lib.hid (hVb.out.block ((hg.2.1.2 _ (by simp <;> omega) (fun ho => by have := hOw.out _ ho; omega)).trans (Below.heap_alloc _ _ _ hsz))); clear hg)
          refine bodyPost_ret (by simp [results, Try.results10, go_sem, v0, v1, v2]; try rfl) rfl ?_
          refine ⟨_, _, _, rfl, .inr ⟨j, hlt, rfl, rfl, rfl, (by have := hp0.out; omega), fun i hi => by have := hall.out i hi; omega⟩, ?_⟩
          have hb1 : Below w.heap.size w w1 := next2 (Below.refl _ w1) ((hBl.out.alloc (by omega) _).trans (hC1.out.2.1.all (fun b hb => Nat.le_of_lt (hOw.out b hb)) (by simp <;> omega)))
          exact ((hb1.setCell (Nat.le_refl _) _).setCell (Nat.le_refl _) _).setCell (Nat.le_refl _) _
        · have hp0 := Lib.hid hpos
          have hp1 := decide_eq_false hpos
          clear hpos
          go_wp2_with (first | (go_at_call 12; refine hbr.out.mono ?_; rintro r w1 ⟨rfl, g1, hg⟩; have hC1 := Lib.hid hg; have hEk := Lib.hid (hE.out.kept hg.2.1 hfar); have hVk := hVb.out.block ((hg.2.1.2 _ (by simp <;> omega) (fun ho => by have := hOw.out _ ho; omega)).trans (Below.heap_alloc _ _ _ hsz)); obtain ⟨e0, e1, e2, e3, e4, e5, e6, e7, e8, e9, e10, e11, e12, e13⟩ := hEk.out; obtain ⟨v0, v1, v2, u0, u1, u2⟩ := hVk; have hVk0 := Lib.hid (hVb.out.block ((hg.2.1.2 _ (by simp <;> omega) (fun ho => by have := hOw.out _ ho; omega)).trans (Below.heap_alloc _ _ _ hsz))); clear hg) | (go_at_call 13; refine (learn_any hN0.out hC1.out.1 (ev j) hok0.out (by unfold maxLen; omega)).mono ?_; rintro r w2 ⟨rfl, g2, hg⟩; have hC2 := Lib.hid hg; clear hg))
          go_roundw
          case rel =>
            have how1 := grew_up (w := w) (by simp <;> omega) hOw.out hC1.out.2.2
            have hb1 : Below w.heap.size w w1 := (hBl.out.alloc (by omega) _).trans (hC1.out.2.1.all (fun b hb => Nat.le_of_lt (hOw.out b hb)) (by simp <;> omega))
            have hs1 : w.heap.size < w1.heap.size := hVk0.out.lt
            have how2 := grew_up (w := w) hs1 how1 hC2.out.2.2
            refine ⟨j + 1, by omega, by go_num, ⟨g2, hC2.out.1.mono (by omega), hVk0.out.block (hC2.out.2.1.2 _ hs1 (fun ho => by have := how1 _ ho; omega)), hb1.trans (hC2.out.2.1.all (fun b hb => Nat.le_of_lt (how1 b hb)) (by omega)), how2⟩, fun i hi => ?_⟩
            rcases (show i < j ∨ i = j from by omega) with h1 | h1
            · have := hall.out i h1; omega
            · rw [h1]; have := hp0.out; omega
          case measure => simp [intOf]; omega
      · have hje : j = ln := by omega
        subst hje
        have hvb := hVb.out
        obtain ⟨v0, v1, v2, u0, u1, u2⟩ := hvb
        go_wp2_with fail
        refine bodyPost_ret (by simp [results, Try.results10, go_sem, v0, v1, v2]; try rfl) rfl ?_
        refine ⟨_, _, _, rfl, .inl ⟨rfl, rfl, rfl, fun i hi => by have := hall.out i hi; omega⟩, ?_⟩
        exact ((hBl.out.setCell (Nat.le_refl _) _).setCell (Nat.le_refl _) _).setCell (Nat.le_refl _) _
end Go.Proofs.Ytiefkpfjmbifcaa

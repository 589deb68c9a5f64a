/-
  The law CheckNumbers: the walk.
-/
import Derived.Test.YtiefkpfjmbifcaaL6
namespace Go.Proofs.Ytiefkpfjmbifcaa
open Go.RowKit Go.Maps

theorem lits40 (d : Nat) {s n : Int} (hs : Whole s) (hn : Word n) : Try.prog.keyLits (d + 2) 40 [.int .i64 s, .int .u64 n] = some [.int .i64 s, .int .u64 n] := by
  have h2 : Try.prog.cellsOf 40 = 2 := by kernel_rfl
  have h3 : Try.prog.cellsOf 3 = 1 := by kernel_rfl
  have h4 : Try.prog.cellsOf 33 = 1 := by kernel_rfl
  simp [Program.keyLits, Try.underlying40, h2, h3, h4, Try.underlying3, Try.underlying33, wf_i64 hs, wf_u64 hn]
theorem keyOf40 {s n : Int} (hs : Whole s) (hn : Word n) : keyOf Try.prog 40 (pkV s n) = some (pkL s n) := by
  have h1 : Try.prog.keyType 40 = true := by kernel_rfl
  have h2 : Try.prog.cellsOf 40 = 2 := by kernel_rfl
  have h5 := lits40 91 hs hn
  unfold pkV pkL keyOf
  rw [Try.underlying40, sizeP]
  simp only [h1, Value.formed, Try.underlying40, h2, Value.cells]
  simp only [show (91 + 2 : Nat) = 93 from rfl] at h5
  rw [h5]
  simp
theorem law40 : Keyed Try.prog 40 := Keyed.of_law (deep_law_laid (by kernel_rfl) (m := 2) (by omega) (of_decide_eq_true (by kernel_rfl)) (by kernel_rfl) (by kernel_rfl))
/-- A set of the law's own packets. -/
def MapC (w : World) (m n : Nat) (g : Int → Int → Bool) : Prop :=
  ∃ D : DataW Unit, w.ownsMap Try.prog 40 Rv m n D ∧ ∀ s x, Whole s → Word x → D.atKey (pkL s x) (.lit (.bool false)) = .lit (.bool (g s x))
theorem MapC.made (w : World) : MapC (w.alloc (.map #[] 0)) w.heap.size 0 fun _ _ => false := ⟨_, World.ownsMap_made w Try.prog 40 Rv, fun _ _ _ _ => rfl⟩
theorem MapC.block {w w' : World} {m n : Nat} {g : Int → Int → Bool} (h : MapC w m n g) (hh : w'.heap[m]? = w.heap[m]?) : MapC w' m n g := by
  obtain ⟨D, h1, h2⟩ := h
  exact ⟨D, owns_block h1 hh, h2⟩
theorem MapC.mono {w : World} {m n n' : Nat} {g : Int → Int → Bool} (h : MapC w m n g) (hn : n ≤ n') : MapC w m n' g := by
  obtain ⟨D, h1, h2⟩ := h
  exact ⟨D, h1.mono hn, h2⟩
theorem MapC.look {w : World} {m n : Nat} {g : Int → Int → Bool} (h : MapC w m n g) {s x : Int} (hs : Whole s) (hx : Word x) :
    (Instr.lookup 32 (.map (some m)) (.agg #[.int .i64 s, .int .u64 x]) false).run Try.prog w = .ok (.bool (g s x)) w := by
  obtain ⟨D, h1, h2⟩ := h
  obtain ⟨v, ps, hr, hv⟩ := h1.lookup law40 Try.underlying32 (zero4 w) (zd := .lit (.bool false)) (zp := []) rfl (keyOf40 hs hx)
  rw [h2 s x hs hx] at hv
  rw [Rv_bool hv] at hr
  exact hr
theorem MapC.store {w : World} {m n : Nat} {g : Int → Int → Bool} (h : MapC w m n g) {s x : Int} (hs : Whole s) (hx : Word x) (hn : n < maxLen) :
    ∃ w', (Instr.mapUpdate 32 (.map (some m)) (.agg #[.int .i64 s, .int .u64 x]) (.bool true)).run Try.prog w = .ok () w' ∧ MapC w' m (n + 1) (setB g s x) ∧ w.mapTurned w' m := by
  obtain ⟨D, h1, h2⟩ := h
  obtain ⟨w', hr, ho, ht⟩ := h1.store law40 Try.underlying32 hn (keyOf40 hs hx) (val := .bool true) (d := .lit (.bool true)) (ps := []) rfl
  refine ⟨w', hr, ⟨_, ho, fun a b ha hb => ?_⟩, ht⟩
  unfold setB
  split
  · rename_i e
    rw [e.1, e.2]
    exact atKey_put_same h1.isMap (law40.key (keyOf40 hs hx)) _ _
  · rename_i e
    rw [atKey_put_other (fun e2 => e (pkL_inj ha hb hs hx e2))]
    exact h2 a b ha hb
theorem MapC.lt {w : World} {m n : Nat} {g : Int → Int → Bool} (h : MapC w m n g) : m < w.heap.size := by obtain ⟨D, h1, -⟩ := h; exact h1.lt
theorem MapU.lt {w : World} {m n : Nat} {g : Int → Int} (h : MapU w m n g) : m < w.heap.size := by obtain ⟨D, h1, -⟩ := h; exact h1.lt
theorem MapC.below {w w' : World} {m n : Nat} {g : Int → Int → Bool} (h : MapC w m n g) (hb : Below w.heap.size w w') : MapC w' m n g := h.block (hb.block _ h.lt)
theorem MapU.below {w w' : World} {m n : Nat} {g : Int → Int} (h : MapU w m n g) (hb : Below w.heap.size w w') : MapU w' m n g := h.block (hb.block _ h.lt)

theorem made_at {w : World} {m m' n : Nat} {g : Int → Int → Bool} (hm : m' = m) (h : MapC w m n g) : MapC w m' n g := hm ▸ h

/-! ### what the events ahead left -/
theorem next_more (s : St) : (nextF s).sent = s.sent ∧ (nextF s).got = s.got ∧ (nextF s).settled = s.settled ∧ (nextF s).asks = s.asks ∧ (nextF s).gs = s.gs ∧ (nextF s).gn = s.gn ∧ ((nextF s).stage = 1 → s.stage = 1) := by
  unfold nextF
  split
  · exact ⟨rfl, rfl, rfl, rfl, rfl, rfl, fun h => by simp at h⟩
  · exact ⟨rfl, rfl, rfl, rfl, rfl, rfl, fun h => h⟩
theorem told_more (s : St) (f : Frm) : (toldF s f).sent = s.sent ∧ (toldF s f).got = s.got ∧ (toldF s f).settled = s.settled ∧ ((toldF s f).asks = s.asks ∨ (toldF s f).asks = setB s.asks s.gs s.gn) ∧ (toldF s f).gs = s.gs ∧ (toldF s f).gn = s.gn ∧ (toldF s f).stage = s.stage := by
  have h : (askF s f).sent = s.sent ∧ (askF s f).got = s.got ∧ (askF s f).settled = s.settled ∧ ((askF s f).asks = s.asks ∨ (askF s f).asks = setB s.asks s.gs s.gn) ∧ (askF s f).gs = s.gs ∧ (askF s f).gn = s.gn ∧ (askF s f).stage = s.stage := by
    unfold askF
    split
    · exact ⟨rfl, rfl, rfl, .inl rfl, rfl, rfl, rfl⟩
    · exact ⟨rfl, rfl, rfl, .inr rfl, rfl, rfl, rfl⟩
  unfold toldF
  split
  · exact h
  · exact h
theorem heard_more (s : St) (f : Frm) : (heardF s f).sent = s.sent ∧ (heardF s f).got = s.got ∧ (heardF s f).settled = s.settled ∧ (heardF s f).asks = s.asks ∧ (heardF s f).gs = s.gs ∧ (heardF s f).gn = s.gn ∧ (heardF s f).stage = s.stage := by
  unfold heardF
  repeat' split
  all_goals exact ⟨rfl, rfl, rfl, rfl, rfl, rfl, rfl⟩
structure More (s t : St) (e : Ev) : Prop where
  sent : t.sent = if e.k = 5 then setU s.sent e.sp (IntKind.u64.wrap (s.sent e.sp + 1)) else s.sent
  got : t.got = if e.k = 6 then setB s.got e.sp e.num else s.got
  settled : t.settled = if e.k = 11 ∨ e.k = 10 then setB s.settled e.sp e.num else s.settled
  asks : t.asks = s.asks ∨ (e.k = 8 ∧ t.asks = setB s.asks s.gs s.gn)
  stage : t.stage = 1 → (e.k = 5 ∧ t.gs = e.sp ∧ t.gn = e.num) ∨ (e.k ≠ 5 ∧ s.stage = 1 ∧ t.gs = s.gs ∧ t.gn = s.gn)
theorem learn_more (N : ByteArray → Nat → Int) (s : St) (e : Ev) : More s (learnF N s e) e := by
  unfold learnF
  by_cases h3 : e.k = 3
  · rw [if_pos h3]; exact ⟨by rw [if_neg (by omega)], by rw [if_neg (by omega)], by rw [if_neg (by omega)], .inl rfl, fun h => .inr ⟨by omega, h, rfl, rfl⟩⟩
  rw [if_neg h3]
  by_cases h14 : e.k = 14
  · rw [if_pos h14]; exact ⟨by rw [if_neg (by omega)], by rw [if_neg (by omega)], by rw [if_neg (by omega)], .inl rfl, fun h => .inr ⟨by omega, h, rfl, rfl⟩⟩
  rw [if_neg h14]
  by_cases h5 : e.k = 5
  · rw [if_pos h5]
    obtain ⟨a1, a2, a3, a4, a5, a6, a7⟩ := next_more { s with sent := setU s.sent e.sp (IntKind.u64.wrap (s.sent e.sp + 1)), gs := e.sp, gn := e.num, left := e.many, stage := 1 }
    exact ⟨by rw [if_pos h5]; exact a1, by rw [if_neg (by omega)]; exact a2, by rw [if_neg (by omega)]; exact a3, .inl a4, fun _ => .inl ⟨h5, a5, a6⟩⟩
  rw [if_neg h5]
  by_cases h8 : e.k = 8
  · rw [if_pos h8]
    obtain ⟨a1, a2, a3, a4, a5, a6, a7⟩ := told_more (leftF s) e.f
    obtain ⟨b1, b2, b3, b4, b5, b6, b7⟩ := next_more { s with left := IntKind.u64.wrap (s.left - 1) }
    refine ⟨by rw [if_neg (by omega)]; exact a1.trans b1, by rw [if_neg (by omega)]; exact a2.trans b2, by rw [if_neg (by omega)]; exact a3.trans b3, ?_, fun h => .inr ⟨h5, b7 (a7.symm.trans h), a5.trans b5, a6.trans b6⟩⟩
    rcases a4 with a4 | a4
    · exact .inl (a4.trans b4)
    · refine .inr ⟨h8, a4.trans ?_⟩
      show setB (nextF _).asks (nextF _).gs (nextF _).gn = _
      rw [b4, b5, b6]
  rw [if_neg h8]
  by_cases h4 : e.k = 4
  · rw [if_pos h4]; exact ⟨by rw [if_neg (by omega)], by rw [if_neg (by omega)], by rw [if_neg (by omega)], .inl rfl, fun h => by simp at h⟩
  rw [if_neg h4]
  by_cases h12 : e.k = 12
  · rw [if_pos h12]; exact ⟨by rw [if_neg (by omega)], by rw [if_neg (by omega)], by rw [if_neg (by omega)], .inl rfl, fun h => by simp at h⟩
  rw [if_neg h12]
  by_cases h6 : e.k = 6
  · rw [if_pos h6]; exact ⟨by rw [if_neg (by omega)], by rw [if_pos h6], by rw [if_neg (by omega)], .inl rfl, fun h => .inr ⟨by omega, h, rfl, rfl⟩⟩
  rw [if_neg h6]
  by_cases h9 : e.k = 9
  · rw [if_pos h9]
    obtain ⟨a1, a2, a3, a4, a5, a6, a7⟩ := heard_more { s with rest := IntKind.u64.wrap (s.rest - 1) } e.f
    exact ⟨by rw [if_neg (by omega)]; exact a1, by rw [if_neg (by omega)]; exact a2, by rw [if_neg (by omega)]; exact a3, .inl a4, fun h => .inr ⟨by omega, a7.symm.trans h, a5, a6⟩⟩
  rw [if_neg h9]
  by_cases h11 : e.k = 11 ∨ e.k = 10
  · rw [if_pos h11]; exact ⟨by rw [if_neg (by omega)], by rw [if_neg (by omega)], by rw [if_pos h11], .inl rfl, fun h => .inr ⟨by omega, h, rfl, rfl⟩⟩
  rw [if_neg h11]
  by_cases h13 : e.k = 13
  · rw [if_pos h13]; exact ⟨by rw [if_neg (by omega)]; rfl, by rw [if_neg (by omega)]; rfl, by rw [if_neg (by omega)]; rfl, .inl rfl, fun h => .inr ⟨by omega, h, rfl, rfl⟩⟩
  rw [if_neg h13]
  by_cases h15 : e.k = 15
  · rw [if_pos h15]; exact ⟨by rw [if_neg (by omega)], by rw [if_neg (by omega)], by rw [if_neg (by omega)], .inl rfl, fun h => .inr ⟨by omega, h, rfl, rfl⟩⟩
  rw [if_neg h15]
  exact ⟨by rw [if_neg (by omega)], by rw [if_neg (by omega)], by rw [if_neg (by omega)], .inl rfl, fun h => .inr ⟨by omega, h, rfl, rfl⟩⟩
theorem nine_facts {s : St} {e : Ev} (h : ¬ 0 < brokenF s e) (hk : e.k = 11 ∨ e.k = 10) : s.asks e.sp e.num = true ∧ s.settled e.sp e.num = false := by
  obtain ⟨h1, h2, h3, h4, h5, h6⟩ := ok_facts h
  unfold brokenF at h
  rw [if_neg (by rw [h1]; simp), if_neg (by rw [h2]; simp), if_neg h5, if_neg h6, if_neg (by rw [h3]; simp), if_neg (by rw [h4]; simp), if_neg (by omega)] at h
  by_cases h9 : (e.k = 11 ∨ e.k = 10) ∧ (s.asks e.sp e.num = false ∨ s.settled e.sp e.num = true)
  · rw [if_pos h9] at h; omega
  · cases ha : s.asks e.sp e.num
    · exact absurd ⟨hk, .inl ha⟩ h9
    · cases hs : s.settled e.sp e.num
      · exact ⟨rfl, rfl⟩
      · exact absurd ⟨hk, .inr hs⟩ h9
structure Inv (s : St) (j : Nat) : Prop where
  sent : ∀ sp, 0 ≤ s.sent sp ∧ s.sent sp ≤ j
  asks : ∀ sp x, s.asks sp x = true → x < s.sent sp
  going : s.stage = 1 → s.gn < s.sent s.gs
theorem inv_start (side : Int) : Inv (startF side) 0 := ⟨fun _ => ⟨Int.le_refl 0, Int.le_refl 0⟩, (fun _ _ h => by cases h), (fun h => by cases h)⟩
theorem inv_step (N : ByteArray → Nat → Int) {s : St} {e : Ev} {j : Nat} (hi : Inv s j) (hj : j < 1000) (h : ¬ 0 < brokenF s e) : Inv (learnF N s e) (j + 1) := by
  have hm := learn_more N s e
  obtain ⟨h1, h2, h3, h4, h5, h6⟩ := ok_facts h
  have hw : IntKind.u64.wrap (s.sent e.sp + 1) = s.sent e.sp + 1 := by have := hi.sent e.sp; exact IntWalk.u64_in _ ⟨by omega, by omega⟩
  have hs : ∀ sp, s.sent sp ≤ (learnF N s e).sent sp ∧ (learnF N s e).sent sp ≤ j + 1 := fun sp => by
    rw [hm.sent]
    have := hi.sent sp
    split
    · unfold setU
      rw [hw]
      split
      · rename_i e1; subst e1; omega
      · omega
    · omega
  refine ⟨fun sp => ⟨by have := hi.sent sp; have := hs sp; omega, by have := hs sp; omega⟩, fun sp x hx => ?_, fun hst => ?_⟩
  · rcases hm.asks with ha | ⟨hk, ha⟩
    · rw [ha] at hx
      have := hi.asks sp x hx
      have := hs sp
      omega
    · rw [ha] at hx
      unfold setB at hx
      have hst : s.stage = 1 := by
        unfold goesF at h2
        by_cases h1 : s.stage = 1
        · exact h1
        · rw [if_neg h1, hk] at h2
          repeat' split at h2
          all_goals simp at h2
      split at hx
      · rename_i e1
        obtain ⟨rfl, rfl⟩ := e1
        have := hi.going hst
        have := hs s.gs
        omega
      · have := hi.asks sp x hx
        have := hs sp
        omega
  · rcases hm.stage hst with ⟨hk, hg, hn⟩ | ⟨hk, h1, hg, hn⟩
    · rw [hg, hn, hm.sent, if_pos hk]
      unfold setU
      rw [if_pos rfl, hw]
      have : e.num = s.sent e.sp := by
        by_cases h7 : e.num = s.sent e.sp
        · exact h7
        · exact absurd ⟨hk, h7⟩ h5
      omega
    · rw [hg, hn]
      have := hi.going h1
      have := hs s.gs
      omega

/-- What is known at the head of a round. -/
def NR (N : ByteArray → Nat → Int) (side : Int) (ev : Nat → Ev) (w : World) (m : Nat) (j : Nat) (wr : World) : Prop :=
  MapU wr m j (runF N side ev j).sent ∧ MapC wr (m + 1) j (runF N side ev j).got ∧ MapC wr (m + 1 + 1) j (runF N side ev j).settled ∧ Below w.heap.size w wr
set_option maxRecDepth 100000 in
set_option maxHeartbeats 8000000 in
theorem numbers_any {N : ByteArray → Nat → Int} (hN : NumsOk N) (haw : AwakeOk) (side : Int) (A : Option Addr) (ln lc : Nat) (ev : Nat → Ev) (w : World) (hx : Evs w w.heap.size A ln ev) (hln : ln ≤ 9223372036854775807) :
    Calls Try.prog 5 #[.int .i64 side, .slice A ln lc] w (OkPost w) := by
  have hfd := field_ok
  have hmm := @run_makeMap Try.prog
  have haw0 := Lib.hid haw
  have hN0 := Lib.hid hN
  have hx0 := Lib.hid hx
  clear haw hN hx
  go_enter Try.func5, Try.ntmps5
  go_wp2_with (go_at_call 8; refine (haw0.out _).mono ?_; rintro r w1 ⟨rfl, hb1⟩; have hB1 := Lib.hid hb1; clear hb1)
  refine (large_any A ln lc ev w1 ((hx0.out.below hB1.out).up hB1.out.size) hln).mono ?_
  rintro r w2 ⟨lg, rfl, hlg, hb2⟩
  have hB2 := Lib.hid (next hB1.out hb2 hB1.out.size)
  have hlg0 := Lib.hid hlg
  clear hb2 hlg
  cases lg
  · obtain ⟨h120, hbs⟩ := hlg0.out rfl
    have h120' := Lib.hid h120
    clear hbs
    go_wp2_with (go_at_call 10; refine (trace_any hN0.out side A ln lc ev w2 ((hx0.out.below hB2.out).up hB2.out.size) h120).mono ?_; rintro r w3 ⟨ok, rule, at_, rfl, hv, hb3⟩; have hV := Lib.hid hv; have hB3 := Lib.hid (next hB2.out hb3 hB2.out.size); clear hv hb3)
    · go_ret
      exact ⟨rfl, hB3.out⟩
    · have hok : ok = true := by simpa using ‹(!ok) = false›
      have hall : ∀ j, j < ln → ¬ 0 < badF N side ev j := by
        rcases hV.out with ⟨-, -, -, h⟩ | ⟨_, -, h, -⟩
        · exact h
        · rw [hok] at h; cases h
      have hinv : ∀ j, j ≤ ln → Inv (runF N side ev j) j := by
        intro j
        induction j with
        | zero => exact fun _ => inv_start side
        | succ j ih => exact fun hj => inv_step N (ih (by omega)) (by have := h120'.out; omega) (hall j (by omega))
      have hall0 := Lib.hid hall
      have hinv0 := Lib.hid hinv
      clear hall hinv hlg0 h120
      have hS := Lib.hid (show NR N side ev w w3.heap.size 0 (((w3.alloc (.map #[] 0)).alloc (.map #[] 0)).alloc (.map #[] 0)) from
        ⟨(MapU.made w3).below (((Below.refl _ _).alloc (Nat.le_refl _) _).alloc (by simp) _), made_at (by simp) ((MapC.made (w3.alloc (.map #[] 0))).below ((Below.refl _ _).alloc (Nat.le_refl _) _)), made_at (by simp) (MapC.made ((w3.alloc (.map #[] 0)).alloc (.map #[] 0))), ((hB3.out.alloc hB3.out.size _).alloc (by have := hB3.out.size; simp <;> omega) _).alloc (by have := hB3.out.size; simp <;> omega) _⟩)
      have hsz3 := hB3.out.size
      go_loopw [27] (fun v wr => ∃ j : Nat, j ≤ ln ∧ v = .int .i64 j ∧ NR N side ev w w3.heap.size j wr) (fun v _ => ln - (intOf v).toNat)
      case atStart => exact ⟨0, by omega, by simp, hS.out⟩
      case round =>
        obtain ⟨j, hj, rfl, hu, hc, hd, hbel⟩ := hrel
        have hU := Lib.hid hu
        have hC := Lib.hid hc
        have hD := Lib.hid hd
        have hBl := Lib.hid hbel
        by_cases hlt : j < ln
        · obtain ⟨b, off, rfl, hbB, ⟨a0, a1, a2, a3, a4, a5, a6, a7, a8, a9, a10, a11, a12, a13⟩, hok', -⟩ := (hx0.out.below hBl.out) j hlt
          have hbl : b < wr.heap.size := by have := hbel.size; omega
          have hsp := hok'.sp
          have hnu := hok'.num
          have hjm : j < maxLen := by have := h120'.out; unfold maxLen; omega
          have hs : ¬ 0 < brokenF (runF N side ev j) (ev j) := hall0.out j hlt
          have hM : More (runF N side ev j) (runF N side ev (j + 1)) (ev j) := learn_more N (runF N side ev j) (ev j)
          obtain ⟨-, -, -, -, f5, f6⟩ := ok_facts hs
          have f9 := fun hk => nine_facts hs hk
          have hI := hinv0.out j hj
          have hM0 := Lib.hid hM
          have hI0 := Lib.hid hI
          clear hM hI hok' hu hc hd hbel hs
          rcases (show (ev j).k = 5 ∨ (ev j).k = 6 ∨ (ev j).k = 11 ∨ (ev j).k = 10 ∨ ((ev j).k ≠ 5 ∧ (ev j).k ≠ 6 ∧ (ev j).k ≠ 11 ∧ (ev j).k ≠ 10) from by omega) with k | k | k | k | ⟨k5, k6, k11, k10⟩
          · have hW2 : Below wr.heap.size wr ((wr.alloc (.cells #[.int .i64 5, .int .i64 (ev j).sp, .int .u64 (ev j).tm, .int .u64 (ev j).num, .int .u64 (ev j).many, .string (ev j).text, .int .u64 (ev j).f.k, .int .u64 (ev j).f.a, .int .u64 (ev j).f.b, .int .u64 (ev j).f.c, .bool (ev j).f.fin, .string (ev j).f.data, .string (ev j).f.more, .slice (ev j).f.la (ev j).f.ln (ev j).f.lc] 38)).alloc (.cells #[.int .i64 (ev j).sp, .int .u64 (ev j).num] 40)) := ((Below.refl _ _).alloc (Nat.le_refl _) _).alloc (by simp) _
            have xU := hU.out.below hW2
            have xC := hC.out.below hW2
            have xD := hD.out.below hW2
            have hWB := Lib.hid (next hBl.out hW2 hBl.out.size)
            have lu := xU.look hsp
            have hn5 : (ev j).num = (runF N side ev j).sent (ev j).sp := by
              by_cases h : (ev j).num = (runF N side ev j).sent (ev j).sp
              · exact h
              · exact absurd ⟨k, h⟩ f5
            have hne := btf hn5
            obtain ⟨w9, hr, hm, ht⟩ := xU.store hsp (IntKind.u64.wrap ((runF N side ev j).sent (ev j).sp + 1)) hjm
            have hF := Lib.hid (show NR N side ev w w3.heap.size (j + 1) w9 from ⟨by rw [hM0.out.sent, if_pos k]; exact hm, by rw [hM0.out.got, if_neg (by omega)]; exact ((xC.block (turned_other ht (by omega))).mono (by omega)), by rw [hM0.out.settled, if_neg (by omega)]; exact ((xD.block (turned_other ht (by omega))).mono (by omega)), hWB.out.grown ht.grown hWB.out.size (fun q hq => by cases hq; omega)⟩)
            clear hn5
            clear xU xC xD hm ht
            go_wp2_with fail
            go_roundw
            case rel => exact ⟨j + 1, by omega, by go_num, hF.out⟩
            case measure => simp [intOf]; omega
          · have hW2 : Below wr.heap.size wr ((wr.alloc (.cells #[.int .i64 6, .int .i64 (ev j).sp, .int .u64 (ev j).tm, .int .u64 (ev j).num, .int .u64 (ev j).many, .string (ev j).text, .int .u64 (ev j).f.k, .int .u64 (ev j).f.a, .int .u64 (ev j).f.b, .int .u64 (ev j).f.c, .bool (ev j).f.fin, .string (ev j).f.data, .string (ev j).f.more, .slice (ev j).f.la (ev j).f.ln (ev j).f.lc] 38)).alloc (.cells #[.int .i64 (ev j).sp, .int .u64 (ev j).num] 40)) := ((Below.refl _ _).alloc (Nat.le_refl _) _).alloc (by simp) _
            have xU := hU.out.below hW2
            have xC := hC.out.below hW2
            have xD := hD.out.below hW2
            have hWB := Lib.hid (next hBl.out hW2 hBl.out.size)
            have lu := xU.look hsp
            have hg : (runF N side ev j).got (ev j).sp (ev j).num = false := by
              cases h : (runF N side ev j).got (ev j).sp (ev j).num
              · rfl
              · exact absurd ⟨k, h⟩ f6
            have lc := xC.look hsp hnu
            rw [hg] at lc
            obtain ⟨w9, hr, hm, ht⟩ := xC.store hsp hnu hjm
            have hF := Lib.hid (show NR N side ev w w3.heap.size (j + 1) w9 from ⟨by rw [hM0.out.sent, if_neg (by omega)]; exact ((xU.block (turned_other ht (by omega))).mono (by omega)), by rw [hM0.out.got, if_pos k]; exact hm, by rw [hM0.out.settled, if_neg (by omega)]; exact ((xD.block (turned_other ht (by omega))).mono (by omega)), hWB.out.grown ht.grown hWB.out.size (fun q hq => by cases hq; omega)⟩)
            clear hg lu
            clear xU xC xD hm ht
            go_wp2_with fail
            go_roundw
            case rel => exact ⟨j + 1, by omega, by go_num, hF.out⟩
            case measure => simp [intOf]; omega
          · have hW2 : Below wr.heap.size wr ((wr.alloc (.cells #[.int .i64 11, .int .i64 (ev j).sp, .int .u64 (ev j).tm, .int .u64 (ev j).num, .int .u64 (ev j).many, .string (ev j).text, .int .u64 (ev j).f.k, .int .u64 (ev j).f.a, .int .u64 (ev j).f.b, .int .u64 (ev j).f.c, .bool (ev j).f.fin, .string (ev j).f.data, .string (ev j).f.more, .slice (ev j).f.la (ev j).f.ln (ev j).f.lc] 38)).alloc (.cells #[.int .i64 (ev j).sp, .int .u64 (ev j).num] 40)) := ((Below.refl _ _).alloc (Nat.le_refl _) _).alloc (by simp) _
            have xU := hU.out.below hW2
            have xC := hC.out.below hW2
            have xD := hD.out.below hW2
            have hWB := Lib.hid (next hBl.out hW2 hBl.out.size)
            have lu := xU.look hsp
            have kk : (ev j).k = 11 ∨ (ev j).k = 10 := .inl k
            obtain ⟨ha, hse⟩ := f9 kk
            have hlt9 := hI0.out.asks _ _ ha
            have ld := xD.look hsp hnu
            rw [hse] at ld
            obtain ⟨w9, hr, hm, ht⟩ := xD.store hsp hnu hjm
            have hF := Lib.hid (show NR N side ev w w3.heap.size (j + 1) w9 from ⟨by rw [hM0.out.sent, if_neg (by omega)]; exact ((xU.block (turned_other ht (by omega))).mono (by omega)), by rw [hM0.out.got, if_neg (by omega)]; exact ((xC.block (turned_other ht (by omega))).mono (by omega)), by rw [hM0.out.settled, if_pos kk]; exact hm, hWB.out.grown ht.grown hWB.out.size (fun q hq => by cases hq; omega)⟩)
            have d9 := decide_eq_false (Int.not_le.2 hlt9)
            clear ha hse kk
            clear xU xC xD hm ht
            go_wp2_with fail
            go_roundw
            case rel => exact ⟨j + 1, by omega, by go_num, hF.out⟩
            case measure => simp [intOf]; omega
          · have hW2 : Below wr.heap.size wr ((wr.alloc (.cells #[.int .i64 10, .int .i64 (ev j).sp, .int .u64 (ev j).tm, .int .u64 (ev j).num, .int .u64 (ev j).many, .string (ev j).text, .int .u64 (ev j).f.k, .int .u64 (ev j).f.a, .int .u64 (ev j).f.b, .int .u64 (ev j).f.c, .bool (ev j).f.fin, .string (ev j).f.data, .string (ev j).f.more, .slice (ev j).f.la (ev j).f.ln (ev j).f.lc] 38)).alloc (.cells #[.int .i64 (ev j).sp, .int .u64 (ev j).num] 40)) := ((Below.refl _ _).alloc (Nat.le_refl _) _).alloc (by simp) _
            have xU := hU.out.below hW2
            have xC := hC.out.below hW2
            have xD := hD.out.below hW2
            have hWB := Lib.hid (next hBl.out hW2 hBl.out.size)
            have lu := xU.look hsp
            have kk : (ev j).k = 11 ∨ (ev j).k = 10 := .inr k
            obtain ⟨ha, hse⟩ := f9 kk
            have hlt9 := hI0.out.asks _ _ ha
            have ld := xD.look hsp hnu
            rw [hse] at ld
            obtain ⟨w9, hr, hm, ht⟩ := xD.store hsp hnu hjm
            have hF := Lib.hid (show NR N side ev w w3.heap.size (j + 1) w9 from ⟨by rw [hM0.out.sent, if_neg (by omega)]; exact ((xU.block (turned_other ht (by omega))).mono (by omega)), by rw [hM0.out.got, if_neg (by omega)]; exact ((xC.block (turned_other ht (by omega))).mono (by omega)), by rw [hM0.out.settled, if_pos kk]; exact hm, hWB.out.grown ht.grown hWB.out.size (fun q hq => by cases hq; omega)⟩)
            have d9 := decide_eq_false (Int.not_le.2 hlt9)
            clear ha hse kk
            clear xU xC xD hm ht
            go_wp2_with fail
            go_roundw
            case rel => exact ⟨j + 1, by omega, by go_num, hF.out⟩
            case measure => simp [intOf]; omega
          · have b5 := bnf k5
            have b6 := bnf k6
            have b11 := bnf k11
            have b10 := bnf k10
            have hW2 : Below wr.heap.size wr ((wr.alloc (.cells #[.int .i64 (ev j).k, .int .i64 (ev j).sp, .int .u64 (ev j).tm, .int .u64 (ev j).num, .int .u64 (ev j).many, .string (ev j).text, .int .u64 (ev j).f.k, .int .u64 (ev j).f.a, .int .u64 (ev j).f.b, .int .u64 (ev j).f.c, .bool (ev j).f.fin, .string (ev j).f.data, .string (ev j).f.more, .slice (ev j).f.la (ev j).f.ln (ev j).f.lc] 38)).alloc (.cells #[.int .i64 (ev j).sp, .int .u64 (ev j).num] 40)) := ((Below.refl _ _).alloc (Nat.le_refl _) _).alloc (by simp) _
            have xU := hU.out.below hW2
            have xC := hC.out.below hW2
            have xD := hD.out.below hW2
            have hWB := Lib.hid (next hBl.out hW2 hBl.out.size)
            have lu := xU.look hsp
            have hF := Lib.hid (show NR N side ev w w3.heap.size (j + 1) _ from ⟨by rw [hM0.out.sent, if_neg k5]; exact xU.mono (by omega), by rw [hM0.out.got, if_neg k6]; exact xC.mono (by omega), by rw [hM0.out.settled, if_neg (by omega)]; exact xD.mono (by omega), hWB.out⟩)
            clear xU xC xD lu
            go_wp2_with fail
            go_roundw
            case rel => exact ⟨j + 1, by omega, by go_num, hF.out⟩
            case measure => simp [intOf]; omega
        · have hje : j = ln := by omega
          go_wp2_with fail
          go_ret
          exact ⟨rfl, hBl.out⟩
  · go_wp2_with fail
    go_ret
    exact ⟨rfl, hB2.out⟩
end Go.Proofs.Ytiefkpfjmbifcaa

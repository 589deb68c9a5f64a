/-
  The law CheckFinals, what it hangs on: where streams end, in plain Lean; and its two maps in memory.
-/
import Derived.Test.YtiefkpfjmbifcaaL6
import Derived.OwnWalk
import Derived.Deep.RegionHeld3
import Derived.Laws.AppendOwn
import Derived.ArgAppend
import Derived.Maps.RangeWalk
namespace Go.Proofs.Ytiefkpfjmbifcaa
open Go.RowKit Go.Maps

/-! ### how far a stream went, and where it ends -/
/-- How far a stream went. -/
def farF (x : Strm) : Int := if x.known then x.final else x.sent
/-- What the law keeps of a stream stays. -/
def Stays (s t : St) : Prop := ∀ i, (t.strm i).known = (s.strm i).known ∧ (t.strm i).final = (s.strm i).final ∧ (t.strm i).sent = (s.strm i).sent
theorem Stays.far {s t : St} (h : Stays s t) (i : Int) : farF (t.strm i) = farF (s.strm i) := by
  obtain ⟨h1, h2, h3⟩ := h i
  unfold farF
  rw [h1, h2, h3]
theorem stays_upd {s : St} {id : Int} {x : Strm} (h : x.known = (s.strm id).known ∧ x.final = (s.strm id).final ∧ x.sent = (s.strm id).sent) : Stays s (s.upd id x) := fun i => by
  show ((if i = id then x else s.strm i).known = _ ∧ (if i = id then x else s.strm i).final = _ ∧ (if i = id then x else s.strm i).sent = _)
  split
  · rename_i e; subst e; exact h
  · exact ⟨rfl, rfl, rfl⟩
theorem next_strm (s : St) : (nextF s).strm = s.strm := by unfold nextF; split <;> rfl
theorem ask_strm (s : St) (f : Frm) : (askF s f).strm = s.strm := by unfold askF; split <;> rfl
theorem heard_stays (s : St) (f : Frm) : Stays s (heardF s f) := by
  unfold heardF
  repeat' split
  · exact fun _ => ⟨rfl, rfl, rfl⟩
  · exact stays_upd ⟨rfl, rfl, rfl⟩
  · exact stays_upd ⟨rfl, rfl, rfl⟩
  · exact fun _ => ⟨rfl, rfl, rfl⟩
theorem stays_of {s t : St} (h : t.strm = s.strm) : Stays s t := fun i => by rw [h]; exact ⟨rfl, rfl, rfl⟩
/-- An event that tells of no bytes of a stream. -/
theorem quiet_stays (N : ByteArray → Nat → Int) (s : St) (e : Ev) (h : ¬ (e.k = 8 ∧ (e.f.k = 8 ∨ e.f.k = 4))) : Stays s (learnF N s e) := by
  unfold learnF
  by_cases h3 : e.k = 3
  · rw [if_pos h3]; exact stays_of rfl
  rw [if_neg h3]
  by_cases h14 : e.k = 14
  · rw [if_pos h14]; exact stays_of rfl
  rw [if_neg h14]
  by_cases h5 : e.k = 5
  · rw [if_pos h5]; exact stays_of (next_strm _)
  rw [if_neg h5]
  by_cases h8 : e.k = 8
  · rw [if_pos h8]
    unfold toldF
    rw [if_neg (fun hf => h ⟨h8, hf⟩)]
    exact stays_of ((ask_strm _ _).trans (next_strm _))
  rw [if_neg h8]
  by_cases h4 : e.k = 4
  · rw [if_pos h4]; exact stays_of rfl
  rw [if_neg h4]
  by_cases h12 : e.k = 12
  · rw [if_pos h12]; exact stays_of rfl
  rw [if_neg h12]
  by_cases h6 : e.k = 6
  · rw [if_pos h6]; exact stays_of rfl
  rw [if_neg h6]
  by_cases h9 : e.k = 9
  · rw [if_pos h9]; exact heard_stays { s with rest := IntKind.u64.wrap (s.rest - 1) } e.f
  rw [if_neg h9]
  by_cases h11 : e.k = 11 ∨ e.k = 10
  · rw [if_pos h11]; exact stays_of rfl
  rw [if_neg h11]
  by_cases h13 : e.k = 13
  · rw [if_pos h13]; exact stays_upd ⟨rfl, rfl, rfl⟩
  rw [if_neg h13]
  by_cases h15 : e.k = 15
  · rw [if_pos h15]; exact stays_of rfl
  rw [if_neg h15]
  exact stays_of rfl
theorem mx_left {a b : Int} (h : b ≤ a) : mx a b = a := by unfold mx; split <;> omega
theorem mx_right {a b : Int} (h : a ≤ b) : mx a b = b := by unfold mx; split <;> omega
/-- A right event that tells of a stream's bytes. -/
theorem loud_step {N : ByteArray → Nat → Int} {s : St} {e : Ev} (h : ¬ 0 < brokenF s e) (hk : e.k = 8) (hf : e.f.k = 8 ∨ e.f.k = 4) :
    (∀ i, i ≠ e.f.a → (learnF N s e).strm i = s.strm i) ∧ farF ((learnF N s e).strm e.f.a) = mx (farF (s.strm e.f.a)) (endF e.f) ∧
    ((s.strm e.f.a).known = true → ((learnF N s e).strm e.f.a).known = true ∧ ((learnF N s e).strm e.f.a).final = (s.strm e.f.a).final) ∧
    (finF e.f = true → ((learnF N s e).strm e.f.a).known = true ∧ ((learnF N s e).strm e.f.a).final = endF e.f) := by
  obtain ⟨h1, h2, h3, h4, h5, h6⟩ := ok_facts h
  have hb : bad12 (s.strm e.f.a) e.f = false := by
    unfold brokenF at h
    rw [if_neg (by rw [h1]; simp), if_neg (by rw [h2]; simp), if_neg h5, if_neg h6, if_neg (by rw [h3]; simp), if_neg (by rw [h4]; simp), if_pos hk] at h
    unfold frameF at h
    by_cases g1 : e.sp = 0 ∧ ¬ firstK e.f.k
    · rw [if_pos g1] at h; omega
    rw [if_neg g1] at h
    rw [if_neg (by omega), if_pos hf] at h
    unfold bytesF at h
    by_cases g2 : e.f.k = 8 ∧ limitF s e.f.a < endF e.f
    · rw [if_pos g2] at h; omega
    rw [if_neg g2] at h
    by_cases g3 : e.f.k = 8 ∧ mx (s.lim 4) s.wide < IntKind.u64.wrap (sumF s e.f.a + mx (endF e.f) (s.strm e.f.a).sent)
    · rw [if_pos g3] at h; omega
    rw [if_neg g3] at h
    cases hb : bad12 (s.strm e.f.a) e.f
    · rfl
    · rw [if_pos hb] at h; omega
  have hl : (learnF N s e).strm = fun i => if i = e.f.a then finalX (resetX (sentX (s.strm e.f.a) e.f) e.f) e.f else s.strm i := by
    unfold learnF
    rw [if_neg (by omega), if_neg (by omega), if_neg (by omega), if_pos hk]
    unfold toldF
    rw [if_pos hf]
    show (fun i => if i = e.f.a then _ else (askF (leftF s) e.f).strm i) = _
    have e1 : (askF (leftF s) e.f).strm = s.strm := (ask_strm _ _).trans (next_strm _)
    have e2 : (leftF s).strm = s.strm := next_strm _
    rw [e1, e2]
  rw [hl]
  simp only [if_true]
  refine ⟨fun i hi => by rw [if_neg hi], ?_⟩
  generalize s.strm e.f.a = x at *
  generalize hen : endF e.f = en at *
  obtain ⟨wide, sent, final, known, reset, came, moved⟩ := x
  unfold bad12 finF at hb
  rw [hen] at hb
  unfold farF finalX resetX sentX finF
  rw [hen]
  cases known
  · simp at hb
    rcases hf with hf | hf
    · cases hfin : e.f.fin
      · simp [hf]
      · simp [hf, hfin] at hb
        simp [hf]
        exact (mx_right hb.1).symm
    · simp [hf] at hb
      simp [hf]
      exact (mx_right (by omega)).symm
  · simp at hb
    obtain ⟨⟨hb1, hb2⟩, -⟩ := hb
    have hm : mx final en = final := mx_left (by omega)
    rcases hf with hf | hf
    · simp [hf] at hb2 ⊢
      exact ⟨hm.symm, fun h => (hb2 h).symm⟩
    · simp [hf] at hb2 ⊢
      exact ⟨hm.symm, hb2.symm⟩

/-! ### the maps -/
/-- Numbers by id. -/
def MapV (w : World) (m n : Nat) (g : Int → Int) : Prop :=
  ∃ D : DataW Unit, w.ownsMap Try.prog 33 Rv m n D ∧ ∀ s, Word s → D.atKey (.int .u64 s) (.lit (.int .u64 0)) = .lit (.int .u64 (g s))
theorem MapV.made (w : World) : MapV (w.alloc (.map #[] 0)) w.heap.size 0 fun _ => 0 := ⟨_, World.ownsMap_made w Try.prog 33 Rv, fun _ _ => rfl⟩
theorem MapV.block {w w' : World} {m n : Nat} {g : Int → Int} (h : MapV w m n g) (hh : w'.heap[m]? = w.heap[m]?) : MapV w' m n g := by
  obtain ⟨D, h1, h2⟩ := h
  exact ⟨D, owns_block h1 hh, h2⟩
theorem MapV.mono {w : World} {m n n' : Nat} {g : Int → Int} (h : MapV w m n g) (hn : n ≤ n') : MapV w m n' g := by
  obtain ⟨D, h1, h2⟩ := h
  exact ⟨D, h1.mono hn, h2⟩
theorem MapV.lt {w : World} {m n : Nat} {g : Int → Int} (h : MapV w m n g) : m < w.heap.size := by obtain ⟨D, h1, -⟩ := h; exact h1.lt
theorem MapV.below {w w' : World} {m n : Nat} {g : Int → Int} (h : MapV w m n g) (hb : Below w.heap.size w w') : MapV w' m n g := h.block (hb.block _ h.lt)
theorem MapV.congr {w : World} {m n : Nat} {g g' : Int → Int} (h : MapV w m n g) (hg : ∀ i, g i = g' i) : MapV w m n g' := by
  obtain rfl : g = g' := funext hg
  exact h
theorem MapV.look {w : World} {m n : Nat} {g : Int → Int} (h : MapV w m n g) {s : Int} (hs : Word s) :
    (Instr.lookup 43 (.map (some m)) (.int .u64 s) false).run Try.prog w = .ok (.int .u64 (g s)) w := by
  obtain ⟨D, h1, h2⟩ := h
  obtain ⟨v, ps, hr, hv⟩ := h1.lookup law33 Try.underlying43 (zero33 w) (zd := .lit (.int .u64 0)) (zp := []) rfl (keyOf_int_mk Try.underlying33 (wf_u64 hs))
  rw [h2 s hs] at hv
  rw [Rv_int hv] at hr
  exact hr
theorem MapV.store {w : World} {m n : Nat} {g : Int → Int} (h : MapV w m n g) {s : Int} (hs : Word s) (v : Int) (hn : n < maxLen) :
    ∃ w', (Instr.mapUpdate 43 (.map (some m)) (.int .u64 s) (.int .u64 v)).run Try.prog w = .ok () w' ∧ MapV w' m (n + 1) (setU g s v) ∧ w.mapTurned w' m := by
  obtain ⟨D, h1, h2⟩ := h
  obtain ⟨w', hr, ho, ht⟩ := h1.store law33 Try.underlying43 hn (keyOf_int_mk Try.underlying33 (wf_u64 hs)) (val := .int .u64 v) (d := .lit (.int .u64 v)) (ps := []) rfl
  refine ⟨w', hr, ⟨_, ho, fun a ha => ?_⟩, ht⟩
  unfold setU
  split
  · rename_i e
    rw [e]
    exact atKey_put_same h1.isMap (law33.key (keyOf_int_mk Try.underlying33 (wf_u64 hs))) _ _
  · rename_i e
    rw [atKey_put_other (fun e2 => e (by injection e2))]
    exact h2 a ha

/-- A slice of the call's own: its row, its length, its room. -/
structure Sl where
  (g n c : Nat)
def slV : Option Sl → Value
  | none => .slice none 0 0
  | some p => .slice (some ⟨p.g, 0, none⟩) p.n p.c
def slD : Option Sl → DataW Unit
  | none => .nil
  | some p => .agg [.lit (.int .i64 p.g), .lit (.int .i64 p.n), .lit (.int .i64 p.c)]
/-- What a slice in a map is told as. -/
def Rs : Value → Option (DataW Unit × List MemPlace)
  | .slice none n c => if n = 0 ∧ c = 0 then some (.nil, []) else none
  | .slice (some a) n c => if a.off = 0 ∧ a.spot = none then some (.agg [.lit (.int .i64 a.block), .lit (.int .i64 n), .lit (.int .i64 c)], []) else none
  | _ => none
theorem Rs_mk (p : Option Sl) : Rs (slV p) = some (slD p, []) := by
  cases p <;> simp [Rs, slV, slD]
theorem Rs_inv {v : Value} {p : Option Sl} {ps : List MemPlace} (h : Rs v = some (slD p, ps)) : v = slV p := by
  unfold Rs at h
  cases p with
  | none =>
    split at h <;> simp [slD] at h
    obtain ⟨⟨rfl, rfl⟩, -⟩ := h
    rfl
  | some p =>
    split at h <;> simp [slD] at h
    rename_i a n c
    obtain ⟨⟨h1, h2⟩, ⟨h3, h4, h5⟩, -⟩ := h
    obtain ⟨b, o, s⟩ := a
    obtain ⟨g, n', c'⟩ := p
    simp at h1 h2
    have h3' : b = g := Int.ofNat.inj h3
    have h4' : n = n' := Int.ofNat.inj h4
    have h5' : c = c' := Int.ofNat.inj h5
    rw [h1, h2, h3', h4', h5']
    rfl
theorem owns_rs {w w' : World} {b n : Nat} {D : DataW Unit} (h : w.ownsMap Try.prog 33 Rs b n D) (hh : w'.heap[b]? = w.heap[b]?) : w'.ownsMap Try.prog 33 Rs b n D := by
  obtain ⟨es, c, hb, r⟩ := h
  exact ⟨es, c, hh.trans hb, r⟩
theorem zero44 (w : World) : (zeroValue 44).run Try.prog w = .ok (.slice none 0 0) w := by kernel_rfl
/-- Rows of the call's own by id: each holds one number, as often as it is long. -/
structure Ends (base : Nat) (w : World) (m n : Nat) (s : Int → Strm) (E : Int → Option Sl) : Prop where
  rows : ∀ id p, E id = some p → Word id ∧ (s id).known = true ∧ 0 < p.n ∧ p.n ≤ n ∧ w.ownsRow base 33 1 (.slice (some ⟨p.g, 0, none⟩) p.n p.c) p.n (List.replicate p.n (.int .u64 (s id).final))
  apart : ∀ id id' p p', E id = some p → E id' = some p' → p.g = p'.g → id = id'
  map : ∃ D : DataW Unit, w.ownsMap Try.prog 33 Rs m n D ∧ ∀ id, Word id → D.atKey (.int .u64 id) .nil = slD (E id)
theorem Ends.lt {base : Nat} {w : World} {m n : Nat} {s : Int → Strm} {E : Int → Option Sl} (h : Ends base w m n s E) : m < w.heap.size := by obtain ⟨D, h1, -⟩ := h.map; exact h1.lt
theorem row_block {base g n c : Nat} {w w' : World} {xs : List Value} (h : w.ownsRow base 33 1 (.slice (some ⟨g, 0, none⟩) n c) n xs) (hh : w'.heap[g]? = w.heap[g]?) : w'.ownsRow base 33 1 (.slice (some ⟨g, 0, none⟩) n c) n xs := by
  obtain ⟨h1, ⟨h2, -⟩ | ⟨g', cap, cur, h2, hb, hg, r⟩⟩ := h
  · cases h2
  · cases h2
    exact ⟨h1, .inr ⟨g, c, cur, rfl, hb, hh.trans hg, r⟩⟩
theorem row_lt {base g n c : Nat} {w : World} {xs : List Value} (h : w.ownsRow base 33 1 (.slice (some ⟨g, 0, none⟩) n c) n xs) : base ≤ g ∧ g < w.heap.size := h.lt g rfl
theorem Ends.made (base : Nat) (w : World) (s : Int → Strm) : Ends base (w.alloc (.map #[] 0)) w.heap.size 0 s fun _ => none :=
  ⟨(fun _ _ h => by cases h), (fun _ _ _ _ h => by cases h), ⟨_, World.ownsMap_made w Try.prog 33 Rs, fun _ _ => rfl⟩⟩
theorem Ends.below {base : Nat} {w w' : World} {m n : Nat} {s : Int → Strm} {E : Int → Option Sl} (h : Ends base w m n s E) (hb : Below w.heap.size w w') : Ends base w' m n s E := by
  refine ⟨fun id p hp => ?_, h.apart, ?_⟩
  · obtain ⟨h1, h2, h3, h4, h5⟩ := h.rows id p hp
    exact ⟨h1, h2, h3, h4, row_block h5 (hb.block _ (row_lt h5).2)⟩
  · obtain ⟨D, h1, h2⟩ := h.map
    exact ⟨D, owns_rs h1 (hb.block _ h1.lt), h2⟩
/-- Another map turned: of the rows none did. -/
theorem Ends.turned {base : Nat} {w w' : World} {m m' n : Nat} {s : Int → Strm} {E : Int → Option Sl} (h : Ends base w m n s E) (ht : w.mapTurned w' m') (hm : m ≠ m') : Ends base w' m n s E := by
  refine ⟨fun id p hp => ?_, h.apart, ?_⟩
  · obtain ⟨h1, h2, h3, h4, h5⟩ := h.rows id p hp
    refine ⟨h1, h2, h3, h4, row_block h5 (turned_other ht ?_)⟩
    rintro rfl
    obtain ⟨es, c, es', c', hb, -⟩ := ht
    obtain ⟨-, ⟨h6, -⟩ | ⟨g', cap, cur, h6, -, hg, -⟩⟩ := h5
    · cases h6
    · cases h6
      rw [hb] at hg
      cases hg
  · obtain ⟨D, h1, h2⟩ := h.map
    exact ⟨D, owns_rs h1 (turned_other ht hm), h2⟩
/-- More was told, of which nothing turns what stands here. -/
theorem Ends.step {base : Nat} {w : World} {m n n' : Nat} {s s' : Int → Strm} {E : Int → Option Sl} (h : Ends base w m n s E) (hn : n ≤ n') (hs : ∀ i, (s i).known = true → (s' i).known = true ∧ (s' i).final = (s i).final) : Ends base w m n' s' E := by
  refine ⟨fun id p hp => ?_, h.apart, ?_⟩
  · obtain ⟨h1, h2, h3, h4, h5⟩ := h.rows id p hp
    obtain ⟨e1, e2⟩ := hs id h2
    exact ⟨h1, e1, h3, by omega, by rw [e2]; exact h5⟩
  · obtain ⟨D, h1, h2⟩ := h.map
    exact ⟨D, h1.mono hn, h2⟩
theorem Ends.look {base : Nat} {w : World} {m n : Nat} {s : Int → Strm} {E : Int → Option Sl} (h : Ends base w m n s E) {id : Int} (hs : Word id) :
    (Instr.lookup 42 (.map (some m)) (.int .u64 id) false).run Try.prog w = .ok (slV (E id)) w := by
  obtain ⟨D, h1, h2⟩ := h.map
  obtain ⟨v, ps, hr, hv⟩ := h1.lookup law33 Try.underlying42 (zero44 w) (zd := .nil) (zp := []) rfl (keyOf_int_mk Try.underlying33 (wf_u64 hs))
  rw [h2 id hs] at hv
  rw [Rs_inv hv] at hr
  exact hr
/-- A row that was made longer is put back. -/
theorem Ends.store {base : Nat} {w0 w : World} {m n : Nat} {s : Int → Strm} {E : Int → Option Sl} (h : Ends base w0 m n s E) {id : Int} (hs : Word id) (hk : (s id).known = true) (p' : Sl)
    (hown : w.ownsRow base 33 1 (.slice (some ⟨p'.g, 0, none⟩) p'.n p'.c) p'.n (List.replicate p'.n (.int .u64 (s id).final))) (hp0 : 0 < p'.n) (hpn : p'.n ≤ n + 1)
    (hwhere : (∃ p, E id = some p ∧ p.g = p'.g) ∨ w0.heap.size ≤ p'.g) (hother : ∀ k, k < w0.heap.size → (∀ p, E id = some p → k ≠ p.g) → w.heap[k]? = w0.heap[k]?) (hn : n < maxLen) :
    ∃ w', (Instr.mapUpdate 42 (.map (some m)) (.int .u64 id) (slV (some p'))).run Try.prog w = .ok () w' ∧ Ends base w' m (n + 1) s (fun i => if i = id then some p' else E i) ∧ w.mapTurned w' m := by
  obtain ⟨D, h1, h2⟩ := h.map
  have hm : ∀ i p, E i = some p → m ≠ p.g := fun i p hp e => by
    obtain ⟨es, c, hb, -⟩ := h1
    obtain ⟨-, -, -, -, h5⟩ := h.rows i p hp
    obtain ⟨-, ⟨h6, -⟩ | ⟨g', cap, cur, h6, -, hg, -⟩⟩ := h5
    · cases h6
    · cases h6
      rw [← e, hb] at hg
      cases hg
  have h1' : w.ownsMap Try.prog 33 Rs m n D := owns_rs h1 (hother m h1.lt (hm id))
  obtain ⟨w', hr, ho, ht⟩ := h1'.store law33 Try.underlying42 hn (keyOf_int_mk Try.underlying33 (wf_u64 hs)) (Rs_mk (some p'))
  have hmp : m ≠ p'.g := by
    rcases hwhere with ⟨p, hp, e⟩ | e
    · rw [← e]; exact hm id p hp
    · have := h1.lt; omega
  refine ⟨w', hr, ⟨fun i p hp => ?_, fun i i' p q hp hq e => ?_, ⟨_, ho, fun a ha => ?_⟩⟩, ht⟩
  · by_cases e : i = id
    · subst e
      simp at hp
      subst hp
      exact ⟨hs, hk, hp0, hpn, row_block hown (turned_other ht (Ne.symm hmp))⟩
    · simp [e] at hp
      obtain ⟨g1, g2, g3, g4, g5⟩ := h.rows i p hp
      refine ⟨g1, g2, g3, by omega, row_block g5 ((turned_other ht (Ne.symm (hm i p hp))).trans (hother _ (row_lt g5).2 (fun q hq e2 => e (h.apart i id p q hp hq e2))))⟩
  · by_cases e1 : i = id
    · by_cases e2 : i' = id
      · rw [e1, e2]
      · simp [e1] at hp
        simp [e2] at hq
        subst hp
        rcases hwhere with ⟨p0, hp0, e3⟩ | e3
        · rw [e1]
          exact h.apart id i' p0 q hp0 hq (e3.trans e)
        · obtain ⟨-, -, -, -, g5⟩ := h.rows i' q hq
          have := (row_lt g5).2
          omega
    · by_cases e2 : i' = id
      · simp [e1] at hp
        simp [e2] at hq
        subst hq
        rcases hwhere with ⟨p0, hp0, e3⟩ | e3
        · rw [e2]
          exact h.apart i id p p0 hp hp0 (e.trans e3.symm)
        · obtain ⟨-, -, -, -, g5⟩ := h.rows i p hp
          have := (row_lt g5).2
          omega
      · simp [e1] at hp
        simp [e2] at hq
        exact h.apart i i' p q hp hq e
  · by_cases e : a = id
    · rw [e, if_pos rfl]
      exact atKey_put_same h1.isMap (law33.key (keyOf_int_mk Try.underlying33 (wf_u64 hs))) _ _
    · rw [if_neg e, atKey_put_other (fun e2 => e (by injection e2))]
      exact h2 a ha

/-- 'append' of one number onto a row of the call's own, or onto nothing: one step of a region that draws its order. -/
theorem step_append_sl {ops : Array Oper} {o : Oper} {a : Act} {w : World} {K : Act → World → Prop} {Q : Exit → Act → World → Prop} {X : Prop} (hg : o.guard = none) (s x : Operand)
    (ho : o.op = .call { callee := .builtin .append, args := #[s, x], argTypes := #[44, 44] })
    (base : Nat) (i : TypeInfo) (z : Value) (hi : Try.prog.info? 33 = some i) (hz : i.zero = some z) (hsize : i.size = 1) (hby : i.bytes = 8) (hzs : z.cells.size = 1)
    (p : Option Sl) (xs : List Value) (hs : a.eval s = slV p) (hnil : p = none → xs = []) (hown : ∀ q, p = some q → q.n = xs.length ∧ w.ownsRow base 33 1 (.slice (some ⟨q.g, 0, none⟩) q.n q.c) q.n xs)
    (ad : Addr) (c : Nat) (u : Value) (hx : a.eval x = .slice (some ad) 1 c) (hu : w.cell? ad = some u) (h1 : u.oneCell' = true)
    (hlen : xs.length ≤ 1048576) (hbase : base ≤ w.heap.size)
    (h : ∀ (p' : Sl) w', p'.n = xs.length + 1 → w'.ownsRow base 33 1 (.slice (some ⟨p'.g, 0, none⟩) p'.n p'.c) p'.n (xs ++ [u]) → ((∃ q, p = some q ∧ q.g = p'.g) ∨ w.heap.size ≤ p'.g) → w.grownBy w' (p.map (·.g)) → K (a.put o.dst (.slice (some ⟨p'.g, 0, none⟩) p'.n p'.c)) w') :
    if Region.wanted o (yielded ops a.tmps) = true then Oper.wp Try.prog o a w K Q else X := by
  have hwant : Region.wanted o (yielded ops a.tmps) = true := by simp [Region.wanted, hg]
  rw [if_pos hwant]
  have hc : ∀ j v, [u][j]? = some v → w.cell? (ad.add j) = some v := fun j v hj => by
    cases j with
    | zero => simp at hj; subst hj; simpa [Addr.add] using hu
    | succ j => simp at hj
  have h1' : ∀ v ∈ [u], v.oneCell' = true := fun v hv => by simp at hv; subst hv; exact h1
  have fresh : ∀ {w' : World} {v' : Value} {k : Nat}, k = xs.length + 1 → w'.ownsRow w.heap.size 33 1 v' k (xs ++ [u]) → ∃ p' : Sl, v' = .slice (some ⟨p'.g, 0, none⟩) p'.n p'.c ∧ p'.n = k ∧ w.heap.size ≤ p'.g ∧ w'.ownsRow base 33 1 (.slice (some ⟨p'.g, 0, none⟩) p'.n p'.c) p'.n (xs ++ [u]) := by
    intro w' v' k hk hw
    obtain ⟨e1, ⟨-, e2⟩ | ⟨g, cap, cur, rfl, hb, r⟩⟩ := hw
    · omega
    · exact ⟨⟨g, k, cap⟩, rfl, rfl, hb, e1, .inr ⟨g, cap, cur, rfl, by omega, r⟩⟩
  cases p with
  | none =>
    obtain rfl := hnil rfl
    obtain ⟨v', w', hrun, r1, r2, -⟩ := run_append_own (P := Try.prog) w w.heap.size 44 o.type 33 i z 1 8 Try.underlying44 hi hz hsize hby hzs (by omega) (.slice none 0 0) 0 [] (World.ownsRow_nil w _ 33 1) ad 1 c [u] rfl hc h1' (by unfold maxLen; omega) (by omega) (Nat.le_refl _)
    obtain ⟨p', rfl, e, hge, ho'⟩ := fresh (by simp) r1
    unfold Oper.wp
    simp [execOp, ho, resolve, invoke, builtin, hs, slV, hx, hrun, Result.andThen]
    exact h p' w' (by simpa using e) ho' (.inr hge) r2
  | some q =>
    obtain ⟨hq, hrow⟩ := hown q rfl
    by_cases hfit : q.n + 1 ≤ q.c
    · obtain ⟨w', hrun, r1, r2⟩ := run_append_fits (P := Try.prog) w base 44 o.type 33 i 1 Try.underlying44 hi hsize q.g q.n q.c xs hrow ad 1 c [u] rfl hc h1' hfit
      unfold Oper.wp
      simp [execOp, ho, resolve, invoke, builtin, hs, slV, hx, hrun, Result.andThen]
      exact h ⟨q.g, q.n + 1, q.c⟩ w' (by simp [hq]) r1 (.inl ⟨q, rfl, rfl⟩) r2
    · obtain ⟨v', w', hrun, r1, r2⟩ := run_append_arg_grows (P := Try.prog) w 44 o.type 33 i z 1 8 Try.underlying44 hi hz hsize hby hzs (by omega) ⟨q.g, 0, none⟩ q.n q.c xs (by omega) (hrow.cells (g := q.g) rfl) ad 1 c [u] rfl hc (by omega) (by unfold maxLen; omega) (by omega)
      obtain ⟨p', rfl, e, hge, ho'⟩ := fresh (by omega) r1
      unfold Oper.wp
      simp [execOp, ho, resolve, invoke, builtin, hs, slV, hx, hrun, Result.andThen]
      exact h p' w' (by omega) ho' (.inr hge) (r2.but _)
theorem info33 : (Try.prog.info? 33).map (fun i => (i.zero, i.size, i.bytes)) = some (some (.int .u64 0), 1, 8) := by kernel_rfl

/-! ### what is known at the head of a round -/
/-- What is known at the head of a round. -/
def GR (N : ByteArray → Nat → Int) (side : Int) (ev : Nat → Ev) (w : World) (m : Nat) (j : Nat) (wr : World) : Prop :=
  (∃ E, Ends w.heap.size wr m j (runF N side ev j).strm E) ∧ MapV wr (m + 1) j (fun i => farF ((runF N side ev j).strm i)) ∧ Below w.heap.size w wr
theorem GR.below {N : ByteArray → Nat → Int} {side : Int} {ev : Nat → Ev} {w wr wx : World} {m j : Nat} (h : GR N side ev w m j wr) (hb : Below wr.heap.size wr wx) : GR N side ev w m j wx := by
  obtain ⟨⟨E, h1⟩, h2, h3⟩ := h
  exact ⟨⟨E, h1.below hb⟩, h2.below hb, next h3 hb h3.size⟩
theorem GR.skip {N : ByteArray → Nat → Int} {side : Int} {ev : Nat → Ev} {w wr : World} {m j : Nat} (h : GR N side ev w m j wr) (hk : ¬ ((ev j).k = 8 ∧ ((ev j).f.k = 8 ∨ (ev j).f.k = 4))) : GR N side ev w m (j + 1) wr := by
  have hs : Stays (runF N side ev j) (runF N side ev (j + 1)) := quiet_stays N _ _ hk
  obtain ⟨⟨E, h1⟩, h2, h3⟩ := h
  refine ⟨⟨E, h1.step (by omega) fun i hi => ?_⟩, (h2.mono (by omega)).congr fun i => (hs.far i).symm, h3⟩
  obtain ⟨e1, e2, -⟩ := hs i
  exact ⟨e1.trans hi, e2⟩
theorem loud_far {N : ByteArray → Nat → Int} {side : Int} {ev : Nat → Ev} {j : Nat} (hs : ¬ 0 < brokenF (runF N side ev j) (ev j)) (hk : (ev j).k = 8) (hf : (ev j).f.k = 8 ∨ (ev j).f.k = 4) :
    ∀ i, setU (fun i => farF ((runF N side ev j).strm i)) (ev j).f.a (mx (farF ((runF N side ev j).strm (ev j).f.a)) (endF (ev j).f)) i = farF ((runF N side ev (j + 1)).strm i) := fun i => by
  obtain ⟨h1, h2, -, -⟩ := loud_step (N := N) hs hk hf
  unfold setU
  split
  · rename_i e
    rw [e]
    exact h2.symm
  · rename_i e
    show farF _ = farF ((learnF N (runF N side ev j) (ev j)).strm i)
    rw [h1 i e]
theorem loud_keep {N : ByteArray → Nat → Int} {side : Int} {ev : Nat → Ev} {j : Nat} (hs : ¬ 0 < brokenF (runF N side ev j) (ev j)) (hk : (ev j).k = 8) (hf : (ev j).f.k = 8 ∨ (ev j).f.k = 4) :
    ∀ i, ((runF N side ev j).strm i).known = true → ((runF N side ev (j + 1)).strm i).known = true ∧ ((runF N side ev (j + 1)).strm i).final = ((runF N side ev j).strm i).final := fun i hi => by
  obtain ⟨h1, -, h3, -⟩ := loud_step (N := N) hs hk hf
  show ((learnF N (runF N side ev j) (ev j)).strm i).known = true ∧ ((learnF N (runF N side ev j) (ev j)).strm i).final = _
  by_cases e : i = (ev j).f.a
  · rw [e] at hi ⊢
    exact h3 hi
  · rw [h1 i e]
    exact ⟨hi, rfl⟩
/-- How far a stream went was put down; where it ends not yet. -/
def GM (N : ByteArray → Nat → Int) (side : Int) (ev : Nat → Ev) (w : World) (m : Nat) (j : Nat) (wr : World) (E : Int → Option Sl) : Prop :=
  Ends w.heap.size wr m j (runF N side ev (j + 1)).strm E ∧ MapV wr (m + 1) (j + 1) (fun i => farF ((runF N side ev (j + 1)).strm i)) ∧ Below w.heap.size w wr
theorem GR.told {N : ByteArray → Nat → Int} {side : Int} {ev : Nat → Ev} {w wr w' : World} {m j : Nat} (h : GR N side ev w m j wr) (hm : w.heap.size ≤ m) (hs : ¬ 0 < brokenF (runF N side ev j) (ev j)) (hk : (ev j).k = 8) (hf : (ev j).f.k = 8 ∨ (ev j).f.k = 4)
    (ht : wr.mapTurned w' (m + 1)) {g : Int → Int} (hg : MapV w' (m + 1) (j + 1) g) (hgg : g = setU (fun i => farF ((runF N side ev j).strm i)) (ev j).f.a (mx (farF ((runF N side ev j).strm (ev j).f.a)) (endF (ev j).f))) : ∃ E, GM N side ev w m j w' E := by
  obtain ⟨⟨E, h1⟩, h2, h3⟩ := h
  subst hgg
  exact ⟨E, (h1.turned ht (by omega)).step (Nat.le_refl _) (loud_keep hs hk hf), hg.congr (loud_far hs hk hf), h3.grown ht.grown h3.size (fun k e => by cases e; omega)⟩
theorem GM.rest {N : ByteArray → Nat → Int} {side : Int} {ev : Nat → Ev} {w w' : World} {m j : Nat} {E : Int → Option Sl} (h : GM N side ev w m j w' E) : GR N side ev w m (j + 1) w' :=
  ⟨⟨E, h.1.step (by omega) (fun _ hi => ⟨hi, rfl⟩)⟩, h.2.1, h.2.2⟩
theorem GM.below {N : ByteArray → Nat → Int} {side : Int} {ev : Nat → Ev} {w wr wx : World} {m j : Nat} {E : Int → Option Sl} (h : GM N side ev w m j wr E) (hb : Below wr.heap.size wr wx) : GM N side ev w m j wx E :=
  ⟨h.1.below hb, h.2.1.below hb, next h.2.2 hb h.2.2.size⟩
/-- What a row holds: one number, as often as it is long. -/
def slX (p : Option Sl) (v : Value) : List Value := match p with
  | none => []
  | some q => List.replicate q.n v
theorem GM.own {N : ByteArray → Nat → Int} {side : Int} {ev : Nat → Ev} {w wr : World} {m j : Nat} {E : Int → Option Sl} (h : GM N side ev w m j wr E) {id u : Int} (hu : ((runF N side ev (j + 1)).strm id).final = u) :
    ∀ q, E id = some q → q.n = (slX (E id) (.int .u64 u)).length ∧ wr.ownsRow w.heap.size 33 1 (.slice (some ⟨q.g, 0, none⟩) q.n q.c) q.n (slX (E id) (.int .u64 u)) := fun q hq => by
  obtain ⟨-, -, -, -, h5⟩ := h.1.rows id q hq
  rw [hu] at h5
  rw [hq]
  exact ⟨by simp [slX], h5⟩
theorem GM.len {N : ByteArray → Nat → Int} {side : Int} {ev : Nat → Ev} {w wr : World} {m j : Nat} {E : Int → Option Sl} (h : GM N side ev w m j wr E) (id : Int) (v : Value) : (slX (E id) v).length ≤ j := by
  cases hE : E id with
  | none => exact Nat.zero_le _
  | some q =>
    obtain ⟨-, -, -, h4, -⟩ := h.1.rows id q hE
    simpa [slX] using h4
/-- The longer row is put back. -/
theorem GM.put {N : ByteArray → Nat → Int} {side : Int} {ev : Nat → Ev} {w wr w' : World} {m j : Nat} {E : Int → Option Sl} (h : GM N side ev w m j wr E) (hm : w.heap.size ≤ m) {id u : Int} (hid : Word id) (hkn : ((runF N side ev (j + 1)).strm id).known = true) (hu : ((runF N side ev (j + 1)).strm id).final = u) (hj : j < maxLen)
    (p' : Sl) (hn : p'.n = (slX (E id) (.int .u64 u)).length + 1) (hown : w'.ownsRow w.heap.size 33 1 (.slice (some ⟨p'.g, 0, none⟩) p'.n p'.c) p'.n (slX (E id) (.int .u64 u) ++ [.int .u64 u])) (hwh : (∃ q, E id = some q ∧ q.g = p'.g) ∨ wr.heap.size ≤ p'.g) (hgr : wr.grownBy w' ((E id).map (·.g))) :
    ∃ w2, (Instr.mapUpdate 42 (.map (some m)) (.int .u64 id) (.slice (some ⟨p'.g, 0, none⟩) p'.n p'.c)).run Try.prog w' = .ok () w2 ∧ GR N side ev w m (j + 1) w2 ∧ ∀ (b : Nat) (cs : Array Value) (t : TypeId), wr.heap[b]? = some (.cells cs t (0, 0)) → t ≠ 33 → w'.heap[b]? = wr.heap[b]? ∧ w2.heap[b]? = wr.heap[b]? := by
  have hx : slX (E id) (.int .u64 u) ++ [.int .u64 u] = List.replicate p'.n (.int .u64 u) := by
    rw [hn]
    cases hE : E id with
    | none => simp [slX]
    | some q => simp [slX, List.replicate_succ']
  rw [hx] at hown
  have hl := h.len id (.int .u64 u)
  have hg0 : w.heap.size ≤ p'.g := (row_lt hown).1
  have hrow : ∀ k, (E id).map (·.g) = some k → w.heap.size ≤ k := fun k hk => by
    cases hE : E id with
    | none => rw [hE] at hk; cases hk
    | some q =>
      rw [hE] at hk
      injection hk with hk
      obtain ⟨-, -, -, -, h5⟩ := h.1.rows id q hE
      rw [← hk]
      exact (row_lt h5).1
  have hother : ∀ k, k < wr.heap.size → (∀ p, E id = some p → k ≠ p.g) → w'.heap[k]? = wr.heap[k]? := fun k hk hp => hgr.block k hk (fun e => by
    cases hE : E id with
    | none => rw [hE] at e; cases e
    | some q =>
      rw [hE] at e
      injection e with e
      exact hp q hE e)
  obtain ⟨w2, hr, hE2, ht⟩ := h.1.store hid hkn p' (by rw [hu]; exact hown) (by omega) (by omega) hwh hother hj
  refine ⟨w2, hr, ⟨⟨_, hE2⟩, ?_, (h.2.2.grown hgr h.2.2.size hrow).grown ht.grown (h.2.2.grown hgr h.2.2.size hrow).size (fun k e => by cases e; omega)⟩, fun b cs t hb ht' => ?_⟩
  rotate_left
  · have hl := (Array.getElem?_eq_some_iff.1 hb).1
    have h1 : w'.heap[b]? = wr.heap[b]? := hother b hl (fun p hp e => by
      obtain ⟨-, -, -, -, h5⟩ := h.1.rows id p hp
      obtain ⟨-, ⟨h6, -⟩ | ⟨g', cap, cur, h6, -, hg, -⟩⟩ := h5
      · cases h6
      · cases h6
        rw [← e, hb] at hg
        injection hg with hg
        injection hg with _ hg
        exact ht' hg)
    refine ⟨h1, (turned_other ht (fun e => ?_)).trans h1⟩
    obtain ⟨D, ⟨es, c, hb', -⟩, -⟩ := h.1.map
    rw [← e, hb] at hb'
    cases hb'
  refine h.2.1.block ?_
  have hne : ∀ p, E id = some p → m + 1 ≠ p.g := fun p hp e => by
    obtain ⟨-, -, -, -, h5⟩ := h.1.rows id p hp
    obtain ⟨D, ⟨es, c, hb, -⟩, -⟩ := h.2.1
    obtain ⟨-, ⟨h6, -⟩ | ⟨g', cap, cur, h6, -, hg, -⟩⟩ := h5
    · cases h6
    · cases h6
      rw [← e, hb] at hg
      cases hg
  exact (turned_other ht (by omega)).trans (hother (m + 1) h.2.1.lt hne)
theorem end_eight {f : Frm} (h : f.k = 8) : endF f = IntKind.u64.wrap (f.b + f.data.size) := by unfold endF; rw [if_neg (by omega)]
theorem end_four {f : Frm} (h : f.k = 4) : endF f = f.c := by unfold endF; rw [if_pos h]
/-- What the law reads of a stream's row, and of how far it went. -/
theorem Ends.reads {base : Nat} {w : World} {m m' n n' : Nat} {s : Int → Strm} {E : Int → Option Sl} (h : Ends base w m n s E) (hf : MapV w m' n' (fun i => farF (s i))) {x : Int} (hx : Word x) :
    ∃ (ao : Option Addr) (k cap : Nat) (fin : Int), slV (E x) = .slice ao k cap ∧ k ≤ n ∧ (∀ i, i < k → ∃ g, ao = some ⟨g, 0, none⟩ ∧ w.cell? ⟨g, i, none⟩ = some (.int .u64 fin)) ∧
      (0 < k → (Instr.lookup 43 (.map (some m')) (.int .u64 x) false).run Try.prog w = .ok (.int .u64 fin) w) := by
  cases hE : E x with
  | none => exact ⟨none, 0, 0, 0, rfl, Nat.zero_le _, fun i hi => by omega, fun hi => by omega⟩
  | some p =>
    obtain ⟨-, h2, -, h4, h5⟩ := h.rows x p hE
    refine ⟨some ⟨p.g, 0, none⟩, p.n, p.c, (s x).final, rfl, h4, fun i hi => ⟨p.g, rfl, ?_⟩, fun _ => ?_⟩
    · have hc := h5.cells (g := p.g) rfl i (.int .u64 (s x).final) (by rw [List.getElem?_replicate, if_pos hi])
      have hadd : (⟨p.g, 0, none⟩ : Addr).add i = ⟨p.g, i, none⟩ := by unfold Addr.add; split <;> simp_all
      rwa [hadd] at hc
    · have hl := hf.look hx
      have e : farF (s x) = (s x).final := by unfold farF; rw [if_pos h2]
      rwa [e] at hl
end Go.Proofs.Ytiefkpfjmbifcaa

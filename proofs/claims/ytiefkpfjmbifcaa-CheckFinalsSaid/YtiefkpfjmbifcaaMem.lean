/-
  The checker in memory: its cells, its maps, its streams; and what is known of them as the world grows.
-/
import Derived.Test.YtiefkpfjmbifcaaMaps
import Derived.Test.YtiefkpfjmbifcaaW1
namespace Go.Proofs.Ytiefkpfjmbifcaa
open Go.RowKit Go.Maps

structure Mem where
  (B m1 m2 m3 m4 m5 : Nat) (g : Int → Option Nat)
def Mem.fix (M : Mem) : List Nat := [M.B, M.m1, M.m2, M.m3, M.m4, M.m5]
def Mem.owns (M : Mem) (b : Nat) : Prop := b ∈ M.fix ∨ ∃ id, M.g id = some b
def Cells (w : World) (M : Mem) (s : St) : Prop :=
  w.cell? ⟨M.B, 0, none⟩ = some (.int .u64 s.side) ∧ w.cell? ⟨M.B, 1, none⟩ = some (.int .u64 s.clock) ∧ w.cell? ⟨M.B, 2, none⟩ = some (.int .u64 s.state) ∧ w.cell? ⟨M.B, 3, none⟩ = some (.int .i64 s.gs) ∧ w.cell? ⟨M.B, 4, none⟩ = some (.int .u64 s.gn) ∧
  w.cell? ⟨M.B, 5, none⟩ = some (.int .u64 s.left) ∧ w.cell? ⟨M.B, 6, none⟩ = some (.int .i64 s.stage) ∧ w.cell? ⟨M.B, 7, none⟩ = some (.int .i64 s.coming) ∧ w.cell? ⟨M.B, 8, none⟩ = some (.int .u64 s.rest) ∧
  w.cell? ⟨M.B, 9, none⟩ = some (.map (some M.m1)) ∧ w.cell? ⟨M.B, 10, none⟩ = some (.map (some M.m2)) ∧ w.cell? ⟨M.B, 11, none⟩ = some (.map (some M.m3)) ∧ w.cell? ⟨M.B, 12, none⟩ = some (.map (some M.m4)) ∧
  (w.cell? ⟨M.B, 13, none⟩ = some (.int .u64 (s.lim 0)) ∧ w.cell? ⟨M.B, 14, none⟩ = some (.int .u64 (s.lim 1)) ∧ w.cell? ⟨M.B, 15, none⟩ = some (.int .u64 (s.lim 2)) ∧ w.cell? ⟨M.B, 16, none⟩ = some (.int .u64 (s.lim 3)) ∧ w.cell? ⟨M.B, 17, none⟩ = some (.int .u64 (s.lim 4)) ∧
   w.cell? ⟨M.B, 18, none⟩ = some (.int .u64 (s.lim 5)) ∧ w.cell? ⟨M.B, 19, none⟩ = some (.int .u64 (s.lim 6)) ∧ w.cell? ⟨M.B, 20, none⟩ = some (.int .u64 (s.lim 7)) ∧ w.cell? ⟨M.B, 21, none⟩ = some (.int .u64 (s.lim 8)) ∧ w.cell? ⟨M.B, 22, none⟩ = some (.int .u64 (s.lim 9))) ∧
  w.cell? ⟨M.B, 23, none⟩ = some (.int .u64 s.wide) ∧ w.cell? ⟨M.B, 24, none⟩ = some (.map (some M.m5))
def Free (w : World) (B n : Nat) : Prop := ∀ i, i < n → w.frozen? ⟨B, i, none⟩ = false
def Row (w : World) (p : Nat) : Prop := ∃ cs t, w.heap[p]? = some (.cells cs t (0, 0))
def SB (w : World) (p : Nat) (x : Strm) : Prop :=
  (w.cell? ⟨p, 0, none⟩ = some (.int .u64 x.wide) ∧ w.cell? ⟨p, 1, none⟩ = some (.int .u64 x.sent) ∧ w.cell? ⟨p, 2, none⟩ = some (.int .u64 x.final) ∧ w.cell? ⟨p, 3, none⟩ = some (.bool x.known) ∧ w.cell? ⟨p, 4, none⟩ = some (.bool x.reset) ∧
   w.cell? ⟨p, 5, none⟩ = some (.int .u64 x.came) ∧ w.cell? ⟨p, 6, none⟩ = some (.int .u64 x.moved)) ∧ Free w p 7 ∧ Row w p
def Total (g : Int → Option Nat) (s : St) : Prop :=
  ∃ ids : List Int, ids.Nodup ∧ (∀ id, id ∈ ids ↔ (g id).isSome = true) ∧ s.total = IntKind.u64.wrap ((ids.map fun i => (s.strm i).sent).sum)
structure CK (w : World) (M : Mem) (n : Nat) (s : St) : Prop where
  cells : Cells w M s
  free : Free w M.B 25
  nd : M.fix.Nodup
  gfar : ∀ id p, M.g id = some p → p ∉ M.fix
  ginj : ∀ id id' p, M.g id = some p → M.g id' = some p → id = id'
  gword : ∀ id p, M.g id = some p → Word id
  sent : MapU w M.m1 n s.sent
  asks : MapB w M.m2 n s.asks
  got : MapB w M.m3 n s.got
  settled : MapB w M.m4 n s.settled
  streams : MapP w M.m5 n M.g
  strm : ∀ id, (∀ p, M.g id = some p → SB w p (s.strm id)) ∧ (M.g id = none → s.strm id = Strm.zero)
  total : Total M.g s
  going : Whole s.gs ∧ Word s.gn

theorem cells_block {w w' : World} {M : Mem} {s : St} (h : Cells w M s) (hh : w'.heap[M.B]? = w.heap[M.B]?) : Cells w' M s := by
  have ec : ∀ i, w'.cell? ⟨M.B, i, none⟩ = w.cell? ⟨M.B, i, none⟩ := fun i => World.cell?_of_block (a := ⟨M.B, i, none⟩) hh
  unfold Cells at *
  simp only [ec]
  exact h
theorem free_block {w w' : World} {b n : Nat} (h : Free w b n) (hh : w'.heap[b]? = w.heap[b]?) : Free w' b n := fun i hi =>
  (World.frozen?_of_block (a := ⟨b, i, none⟩) hh).trans (h i hi)
theorem sb_block {w w' : World} {p : Nat} {x : Strm} (h : SB w p x) (hh : w'.heap[p]? = w.heap[p]?) : SB w' p x := by
  have ec : ∀ i, w'.cell? ⟨p, i, none⟩ = w.cell? ⟨p, i, none⟩ := fun i => World.cell?_of_block (a := ⟨p, i, none⟩) hh
  refine ⟨?_, free_block h.2.1 hh, ?_⟩
  · simp only [ec]
    exact h.1
  · obtain ⟨cs, t, h1⟩ := h.2.2
    exact ⟨cs, t, hh.trans h1⟩
theorem CK.lt {w : World} {M : Mem} {n : Nat} {s : St} (h : CK w M n s) {b : Nat} (hb : M.owns b) : b < w.heap.size := by
  rcases hb with hb | ⟨id, hb⟩
  · simp [Mem.fix] at hb
    rcases hb with rfl | rfl | rfl | rfl | rfl | rfl
    · exact World.block_lt_of_cell? _ _ h.cells.1
    · obtain ⟨D, h1, -⟩ := h.sent; exact h1.lt
    · obtain ⟨D, h1, -⟩ := h.asks; exact h1.lt
    · obtain ⟨D, h1, -⟩ := h.got; exact h1.lt
    · obtain ⟨D, h1, -⟩ := h.settled; exact h1.lt
    · obtain ⟨D, h1, -⟩ := h.streams; exact h1.lt
  · exact World.block_lt_of_cell? _ _ ((h.strm id).1 b hb).1.1
theorem CK.keep {w w' : World} {M : Mem} {n : Nat} {s : St} (h : CK w M n s) (hk : ∀ b, M.owns b → w'.heap[b]? = w.heap[b]?) : CK w' M n s := by
  have hf : ∀ b, b ∈ M.fix → w'.heap[b]? = w.heap[b]? := fun b hb => hk b (.inl hb)
  exact { h with
    cells := cells_block h.cells (hf _ (by simp [Mem.fix])), free := free_block h.free (hf _ (by simp [Mem.fix])),
    sent := h.sent.block (hf _ (by simp [Mem.fix])), asks := h.asks.block (hf _ (by simp [Mem.fix])), got := h.got.block (hf _ (by simp [Mem.fix])), settled := h.settled.block (hf _ (by simp [Mem.fix])), streams := h.streams.block (hf _ (by simp [Mem.fix])),
    strm := fun id => ⟨fun p hp => sb_block ((h.strm id).1 p hp) (hk p (.inr ⟨id, hp⟩)), (h.strm id).2⟩ }
theorem CK.below {w w' : World} {M : Mem} {n : Nat} {s : St} (h : CK w M n s) (hb : Below w.heap.size w w') : CK w' M n s := h.keep fun b hb' => hb.block b (h.lt hb')
theorem CK.mono {w : World} {M : Mem} {n n' : Nat} {s : St} (h : CK w M n s) (hn : n ≤ n') : CK w M n' s :=
  { h with sent := h.sent.mono hn, asks := h.asks.mono hn, got := h.got.mono hn, settled := h.settled.mono hn, streams := h.streams.mono hn }

/-- What a step of the checker leaves alone. -/
def Kept (M : Mem) (w w' : World) : Prop := Below 0 w w' ∧ ∀ b, b < w.heap.size → ¬ M.owns b → w'.heap[b]? = w.heap[b]?
/-- The checker's blocks are those that it had, and new ones. -/
def Grew (w : World) (M M' : Mem) : Prop := M'.B = M.B ∧ M'.fix = M.fix ∧ (∀ b, M'.owns b → M.owns b ∨ w.heap.size ≤ b) ∧ ∀ id p, M.g id = some p → M'.g id = some p
theorem Kept.size {M : Mem} {w w' : World} (h : Kept M w w') : w.heap.size ≤ w'.heap.size := h.1.size
theorem Kept.below {M : Mem} {w w' : World} (h : Below w.heap.size w w') : Kept M w w' := ⟨h.mono (Nat.zero_le _), fun b hb _ => h.block b hb⟩
theorem Kept.refl (M : Mem) (w : World) : Kept M w w := .below (Below.refl _ w)
theorem Grew.refl (w : World) (M : Mem) : Grew w M M := ⟨rfl, rfl, fun _ h => .inl h, fun _ _ h => h⟩
theorem Kept.trans {M M' : Mem} {w w1 w2 : World} (h : Kept M w w1) (hg : Grew w M M') (h2 : Kept M' w1 w2) : Kept M w w2 :=
  ⟨h.1.trans h2.1, fun b hb hn => (h2.2 b (Nat.lt_of_lt_of_le hb h.size) (fun ho => by rcases hg.2.2.1 b ho with h3 | h3; exact hn h3; omega)).trans (h.2 b hb hn)⟩
theorem Kept.trans1 {M : Mem} {w w1 w2 : World} (h : Kept M w w1) (h2 : Kept M w1 w2) : Kept M w w2 := h.trans (Grew.refl w M) h2
theorem Grew.trans {w w1 : World} {M M1 M2 : Mem} (hs : w.heap.size ≤ w1.heap.size) (h : Grew w M M1) (h2 : Grew w1 M1 M2) : Grew w M M2 :=
  ⟨h2.1.trans h.1, h2.2.1.trans h.2.1, fun b hb => by
    rcases h2.2.2.1 b hb with h3 | h3
    · exact h.2.2.1 b h3
    · exact .inr (Nat.le_trans hs h3), fun id p hp => h2.2.2.2 id p (h.2.2.2 id p hp)⟩
theorem Kept.undrew {M : Mem} {w w' : World} (h : Kept M w.drew w') : Kept M w w' := ⟨⟨h.1.os, h.1.tape, h.1.output, h.1.size, h.1.block⟩, h.2⟩
theorem Grew.undrew {w : World} {M M' : Mem} (h : Grew w.drew M M') : Grew w M M' := h
theorem CK.drew {w : World} {M : Mem} {n : Nat} {s : St} (h : CK w M n s) : CK w.drew M n s := h.below (Below.refl _ w).drew
theorem CK.alloc {w : World} {M : Mem} {n : Nat} {s : St} (h : CK w M n s) (o : Obj) : CK (w.alloc o) M n s := h.below ((Below.refl _ w).alloc (Nat.le_refl _) o)
theorem Kept.setCell {M : Mem} {w : World} {a : Addr} (ha : M.owns a.block) (v : Value) : Kept M w (w.setCell a v) :=
  ⟨(Below.refl 0 w).setCell (Nat.zero_le _) v, fun b _ hn => Below.heap_setCell w a v b (fun e => hn (e ▸ ha))⟩
theorem Kept.turned {M : Mem} {w w' : World} {m : Nat} (ha : M.owns m) (h : w.mapTurned w' m) : Kept M w w' :=
  ⟨(Below.refl 0 w).grown h.grown (Nat.zero_le _) (fun _ _ => Nat.zero_le _), fun _ _ hn => turned_other h (fun e => hn (e ▸ ha))⟩
theorem Kept.all {M : Mem} {w w' : World} {base : Nat} (h : Kept M w w') (hb : ∀ b, M.owns b → base ≤ b) (hs : base ≤ w.heap.size) : Below base w w' :=
  ⟨h.1.os, h.1.tape, h.1.output, h.1.size, fun b hb' => h.2 b (by omega) (fun ho => by have := hb b ho; omega)⟩
theorem Kept.cell {M : Mem} {w w' : World} (h : Kept M w w') {b i : Nat} (hb : b < w.heap.size) (hn : ¬ M.owns b) : w'.cell? ⟨b, i, none⟩ = w.cell? ⟨b, i, none⟩ := World.cell?_of_block (a := ⟨b, i, none⟩) (h.2 b hb hn)

/-- One stream is told anew. -/
def St.upd (s : St) (id : Int) (x : Strm) : St :=
  { s with strm := fun i => if i = id then x else s.strm i, total := IntKind.u64.wrap (s.total - (s.strm id).sent + x.sent) }

theorem sum_upd {ids : List Int} (f : Int → Strm) (id : Int) (x : Strm) (hn : ids.Nodup) :
    (ids.map fun i => (if i = id then x else f i).sent).sum = if id ∈ ids then (ids.map fun i => (f i).sent).sum - (f id).sent + x.sent else (ids.map fun i => (f i).sent).sum := by
  induction ids with
  | nil => simp
  | cons a l ih =>
    obtain ⟨h1, h2⟩ := List.nodup_cons.1 hn
    have ih := ih h2
    simp only [List.map_cons, List.sum_cons, ih, List.mem_cons]
    by_cases ha : a = id
    · subst ha
      simp [h1]
      omega
    · have ha' : ¬ id = a := fun e => ha e.symm
      simp only [ha, ha', if_false, false_or]
      split <;> omega
theorem wrap_total (a b c : Int) : IntKind.u64.wrap (IntKind.u64.wrap a - b + c) = IntKind.u64.wrap (a - b + c) := by
  simp [IntKind.wrap, IntKind.signed, IntKind.bits]
  omega
theorem Mem.fix_mem (M : Mem) : M.B ∈ M.fix ∧ M.m1 ∈ M.fix ∧ M.m2 ∈ M.fix ∧ M.m3 ∈ M.fix ∧ M.m4 ∈ M.fix ∧ M.m5 ∈ M.fix := by simp [Mem.fix]
/-- A stream's block is written. -/
theorem CK.setS {w w' : World} {M : Mem} {n : Nat} {s : St} (h : CK w M n s) {id : Int} {p : Nat} (hp : M.g id = some p) {x : Strm} (hx : SB w' p x) (hk : ∀ b, b ≠ p → w'.heap[b]? = w.heap[b]?) : CK w' M n (s.upd id x) := by
  have hfar := h.gfar id p hp
  have hf : ∀ b, b ∈ M.fix → w'.heap[b]? = w.heap[b]? := fun b hb => hk b (fun e => hfar (e ▸ hb))
  obtain ⟨f0, f1, f2, f3, f4, f5⟩ := M.fix_mem
  refine { h with
    cells := cells_block h.cells (hf _ f0), free := free_block h.free (hf _ f0),
    sent := h.sent.block (hf _ f1), asks := h.asks.block (hf _ f2), got := h.got.block (hf _ f3), settled := h.settled.block (hf _ f4), streams := h.streams.block (hf _ f5),
    strm := fun i => ⟨fun q hq => ?_, fun hq => ?_⟩, total := ?_, going := h.going }
  · show SB w' q (if i = id then x else s.strm i)
    split
    · rename_i e
      subst e
      rw [hp] at hq
      injection hq with hq
      exact hq ▸ hx
    · rename_i e
      exact sb_block ((h.strm i).1 q hq) (hk q (fun e2 => e (h.ginj i id q hq (e2 ▸ hp))))
  · show (if i = id then x else s.strm i) = Strm.zero
    split
    · rename_i e
      subst e
      rw [hp] at hq
      cases hq
    · exact (h.strm i).2 hq
  · obtain ⟨ids, h1, h2, h3⟩ := h.total
    refine ⟨ids, h1, h2, ?_⟩
    show IntKind.u64.wrap (s.total - (s.strm id).sent + x.sent) = _
    have hm : id ∈ ids := (h2 id).2 (by rw [hp]; rfl)
    have e : (ids.map fun i => ((s.upd id x).strm i).sent).sum = (ids.map fun i => (s.strm i).sent).sum - (s.strm id).sent + x.sent := by
      have := sum_upd s.strm id x h1
      rw [if_pos hm] at this
      exact this
    rw [e, h3, wrap_total]
/-- The checker's own cells are written. -/
theorem CK.setB {w w' : World} {M : Mem} {n : Nat} {s s' : St} (h : CK w M n s) (hc : Cells w' M s') (hf : Free w' M.B 25) (hk : ∀ b, b ≠ M.B → w'.heap[b]? = w.heap[b]?)
    (e1 : s'.sent = s.sent) (e2 : s'.asks = s.asks) (e3 : s'.got = s.got) (e4 : s'.settled = s.settled) (e5 : s'.strm = s.strm) (e6 : s'.total = s.total) (hg : Whole s'.gs ∧ Word s'.gn) : CK w' M n s' := by
  have hnd := h.nd
  simp [Mem.fix] at hnd
  obtain ⟨⟨n1, n2, n3, n4, n5⟩, -⟩ := hnd
  exact { h with
    cells := hc, free := hf, going := hg,
    sent := e1 ▸ h.sent.block (hk _ (Ne.symm n1)), asks := e2 ▸ h.asks.block (hk _ (Ne.symm n2)), got := e3 ▸ h.got.block (hk _ (Ne.symm n3)), settled := e4 ▸ h.settled.block (hk _ (Ne.symm n4)), streams := h.streams.block (hk _ (Ne.symm n5)),
    strm := fun i => ⟨fun q hq => by rw [e5]; exact sb_block ((h.strm i).1 q hq) (hk q (fun e => h.gfar i q hq (e ▸ M.fix_mem.1))), fun hq => by rw [e5]; exact (h.strm i).2 hq⟩,
    total := by obtain ⟨ids, h1, h2, h3⟩ := h.total; exact ⟨ids, h1, h2, by rw [e5, e6]; exact h3⟩ }
/-- A block that is not the streams' nor the cells' has turned: a map of the five. -/
theorem CK.setM {w w' : World} {M : Mem} {n n' : Nat} {s s' : St} (h : CK w M n s) (m : Nat) (hm : m = M.m1 ∨ m = M.m2 ∨ m = M.m3 ∨ m = M.m4) (hn : n ≤ n') (ht : w.mapTurned w' m)
    (h1 : if m = M.m1 then MapU w' M.m1 n' s'.sent else s'.sent = s.sent) (h2 : if m = M.m2 then MapB w' M.m2 n' s'.asks else s'.asks = s.asks) (h3 : if m = M.m3 then MapB w' M.m3 n' s'.got else s'.got = s.got)
    (h4 : if m = M.m4 then MapB w' M.m4 n' s'.settled else s'.settled = s.settled)
    (hc : ∀ w, Cells w M s → Cells w M s') (e5 : s'.strm = s.strm) (e6 : s'.total = s.total) (e7 : s'.gs = s.gs) (e8 : s'.gn = s.gn) : CK w' M n' s' := by
  have hk : ∀ b, b ≠ m → w'.heap[b]? = w.heap[b]? := fun b hb => turned_other ht hb
  have hnd := h.nd
  simp [Mem.fix] at hnd
  obtain ⟨⟨a1, a2, a3, a4, a5⟩, ⟨b2, b3, b4, b5⟩, ⟨c3, c4, c5⟩, ⟨d4, d5⟩, d6⟩ := hnd
  have hmf : m ∈ M.fix := by simp [Mem.fix]; rcases hm with e | e | e | e <;> simp [e]
  have hB : w'.heap[M.B]? = w.heap[M.B]? := hk _ (by rcases hm with e | e | e | e <;> rw [e] <;> assumption)
  have h5 : w'.heap[M.m5]? = w.heap[M.m5]? := hk _ (by rcases hm with e | e | e | e <;> rw [e] <;> exact Ne.symm (by assumption))
  exact { h with
    cells := hc _ (cells_block h.cells hB), free := free_block h.free hB, going := by rw [e7, e8]; exact h.going,
    sent := by
      by_cases e : m = M.m1
      · rw [if_pos e] at h1; exact h1
      · rw [if_neg e] at h1; rw [h1]; exact (h.sent.block (hk _ (fun e2 => e e2.symm))).mono hn
    asks := by
      by_cases e : m = M.m2
      · rw [if_pos e] at h2; exact h2
      · rw [if_neg e] at h2; rw [h2]; exact (h.asks.block (hk _ (fun e2 => e e2.symm))).mono hn
    got := by
      by_cases e : m = M.m3
      · rw [if_pos e] at h3; exact h3
      · rw [if_neg e] at h3; rw [h3]; exact (h.got.block (hk _ (fun e2 => e e2.symm))).mono hn
    settled := by
      by_cases e : m = M.m4
      · rw [if_pos e] at h4; exact h4
      · rw [if_neg e] at h4; rw [h4]; exact (h.settled.block (hk _ (fun e2 => e e2.symm))).mono hn
    streams := (h.streams.block h5).mono hn,
    strm := fun i => ⟨fun q hq => by rw [e5]; exact sb_block ((h.strm i).1 q hq) (hk q (fun e => h.gfar i q hq (e ▸ hmf))), fun hq => by rw [e5]; exact (h.strm i).2 hq⟩,
    total := by obtain ⟨ids, h1, h2, h3⟩ := h.total; exact ⟨ids, h1, h2, by rw [e5, e6]; exact h3⟩ }
end Go.Proofs.Ytiefkpfjmbifcaa

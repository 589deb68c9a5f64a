/-
  Maps in memory, by what they hold: sets of packets, numbers by space, streams by id.
-/
import Derived.Test.YtiefkpfjmbifcaaPlain
import Derived.WalkKit
import Derived.WalkSpells
import Derived.Maps.OwnSet
import Derived.DeepKeys4
namespace Go.Proofs.Ytiefkpfjmbifcaa
open Go.RowKit Go.Maps

/-- What a value in a map is told as. -/
def Rv : Value → Option (DataW Unit × List MemPlace)
  | .bool x => some (.lit (.bool x), [])
  | .int q a => some (.lit (.int q a), [])
  | .pointer none => some (.nil, [])
  | .pointer (some a) => if a.off = 0 ∧ a.spot = none then some (.ptr (.lit (.int .i64 a.block)), []) else none
  | _ => none
theorem Rv_bool {v : Value} {x : Bool} {ps : List MemPlace} (h : Rv v = some (.lit (.bool x), ps)) : v = .bool x := by
  unfold Rv at h
  split at h <;> simp at h
  · rw [h.1]
theorem Rv_int {v : Value} {q : IntKind} {x : Int} {ps : List MemPlace} (h : Rv v = some (.lit (.int q x), ps)) : v = .int q x := by
  unfold Rv at h
  split at h <;> simp at h
  · rw [h.1.1, h.1.2]
theorem Rv_ptr {v : Value} {p : Nat} {ps : List MemPlace} (h : Rv v = some (.ptr (.lit (.int .i64 p)), ps)) : v = .pointer (some ⟨p, 0, none⟩) := by
  unfold Rv at h
  split at h <;> simp at h
  rename_i a
  obtain ⟨⟨h1, h2⟩, h3, -⟩ := h
  obtain ⟨b, o, s⟩ := a
  simp at h1 h2 h3
  rw [h1, h2, Int.ofNat.inj h3]

theorem wf_i64 {x : Int} (h : Whole x) : (Lit.int .i64 x).wf = true := by
  obtain ⟨h1, h2⟩ := h
  simp [Lit.wf, IntKind.min, IntKind.max, IntKind.signed, IntKind.bits]; omega
theorem wf_u64 {x : Int} (h : Word x) : (Lit.int .u64 x).wf = true := by
  obtain ⟨h1, h2⟩ := h
  simp [Lit.wf, IntKind.min, IntKind.max, IntKind.signed, IntKind.bits]; omega

def pkV (s n : Int) : Value := .agg #[.int .i64 s, .int .u64 n]
def pkL (s n : Int) : Lit := .string (keyBytes [.int .i64 s, .int .u64 n])
theorem sizeP : Try.prog.types.size + 1 = 93 := by kernel_rfl
theorem lits52 (d : Nat) {s n : Int} (hs : Whole s) (hn : Word n) : Try.prog.keyLits (d + 2) 52 [.int .i64 s, .int .u64 n] = some [.int .i64 s, .int .u64 n] := by
  have h2 : Try.prog.cellsOf 52 = 2 := by kernel_rfl
  have h3 : Try.prog.cellsOf 3 = 1 := by kernel_rfl
  have h4 : Try.prog.cellsOf 33 = 1 := by kernel_rfl
  simp [Program.keyLits, Try.underlying52, h2, h3, h4, Try.underlying3, Try.underlying33, wf_i64 hs, wf_u64 hn]
theorem keyOf52 {s n : Int} (hs : Whole s) (hn : Word n) : keyOf Try.prog 52 (pkV s n) = some (pkL s n) := by
  have h1 : Try.prog.keyType 52 = true := by kernel_rfl
  have h2 : Try.prog.cellsOf 52 = 2 := by kernel_rfl
  have h5 := lits52 91 hs hn
  unfold pkV pkL keyOf
  rw [Try.underlying52, sizeP]
  simp only [h1, Value.formed, Try.underlying52, h2, Value.cells]
  simp only [show (91 + 2 : Nat) = 93 from rfl] at h5
  rw [h5]
  simp
theorem law52 : Keyed Try.prog 52 := Keyed.of_law (deep_law_laid (by kernel_rfl) (m := 2) (by omega) (of_decide_eq_true (by kernel_rfl)) (by kernel_rfl) (by kernel_rfl))
theorem law3 : Keyed Try.prog 3 := int_keyed Try.underlying3
theorem law33 : Keyed Try.prog 33 := int_keyed Try.underlying33
theorem pkL_inj {s n s' n' : Int} (hs : Whole s) (hn : Word n) (hs' : Whole s') (hn' : Word n') (h : pkL s n = pkL s' n') : s = s' ∧ n = n' := by
  have e := law52.inj (keyOf52 hs hn) (by rw [h]; exact keyOf52 hs' hn')
  simp [pkV] at e
  exact e
theorem zero4 (w : World) : (zeroValue 4).run Try.prog w = .ok (.bool false) w := by kernel_rfl
theorem zero33 (w : World) : (zeroValue 33).run Try.prog w = .ok (.int .u64 0) w := by kernel_rfl
theorem zero62 (w : World) : (zeroValue 62).run Try.prog w = .ok (.pointer none) w := by kernel_rfl

theorem owns_block {k : TypeId} {w w' : World} {b n : Nat} {D : DataW Unit} (h : w.ownsMap Try.prog k Rv b n D) (hh : w'.heap[b]? = w.heap[b]?) : w'.ownsMap Try.prog k Rv b n D := by
  obtain ⟨es, c, hb, r⟩ := h
  exact ⟨es, c, hh.trans hb, r⟩

/-- A set of packets. -/
def MapB (w : World) (m n : Nat) (g : Int → Int → Bool) : Prop :=
  ∃ D : DataW Unit, w.ownsMap Try.prog 52 Rv m n D ∧ ∀ s x, Whole s → Word x → D.atKey (pkL s x) (.lit (.bool false)) = .lit (.bool (g s x))
def setB (g : Int → Int → Bool) (s n : Int) : Int → Int → Bool := fun a b => if a = s ∧ b = n then true else g a b
theorem MapB.made (w : World) : MapB (w.alloc (.map #[] 0)) w.heap.size 0 fun _ _ => false := ⟨_, World.ownsMap_made w Try.prog 52 Rv, fun _ _ _ _ => rfl⟩
theorem MapB.block {w w' : World} {m n : Nat} {g : Int → Int → Bool} (h : MapB w m n g) (hh : w'.heap[m]? = w.heap[m]?) : MapB w' m n g := by
  obtain ⟨D, h1, h2⟩ := h
  exact ⟨D, owns_block h1 hh, h2⟩
theorem MapB.mono {w : World} {m n n' : Nat} {g : Int → Int → Bool} (h : MapB w m n g) (hn : n ≤ n') : MapB w m n' g := by
  obtain ⟨D, h1, h2⟩ := h
  exact ⟨D, h1.mono hn, h2⟩
theorem MapB.look {w : World} {m n : Nat} {g : Int → Int → Bool} (h : MapB w m n g) {t : TypeId} (ht : Try.prog.underlying t = some (.map 52 4)) {s x : Int} (hs : Whole s) (hx : Word x) :
    (Instr.lookup t (.map (some m)) (.agg #[.int .i64 s, .int .u64 x]) false).run Try.prog w = .ok (.bool (g s x)) w := by
  obtain ⟨D, h1, h2⟩ := h
  obtain ⟨v, ps, hr, hv⟩ := h1.lookup law52 ht (zero4 w) (zd := .lit (.bool false)) (zp := []) rfl (keyOf52 hs hx)
  rw [h2 s x hs hx] at hv
  rw [Rv_bool hv] at hr
  exact hr
theorem MapB.store {w : World} {m n : Nat} {g : Int → Int → Bool} (h : MapB w m n g) {t : TypeId} (ht : Try.prog.underlying t = some (.map 52 4)) {s x : Int} (hs : Whole s) (hx : Word x) (hn : n < maxLen) :
    ∃ w', (Instr.mapUpdate t (.map (some m)) (.agg #[.int .i64 s, .int .u64 x]) (.bool true)).run Try.prog w = .ok () w' ∧ MapB w' m (n + 1) (setB g s x) ∧ w.mapTurned w' m := by
  obtain ⟨D, h1, h2⟩ := h
  obtain ⟨w', hr, ho, ht⟩ := h1.store law52 ht hn (keyOf52 hs hx) (val := .bool true) (d := .lit (.bool true)) (ps := []) rfl
  refine ⟨w', hr, ⟨_, ho, fun a b ha hb => ?_⟩, ht⟩
  unfold setB
  split
  · rename_i e
    rw [e.1, e.2]
    exact atKey_put_same h1.isMap (law52.key (keyOf52 hs hx)) _ _
  · rename_i e
    rw [atKey_put_other (fun e2 => e (pkL_inj ha hb hs hx e2))]
    exact h2 a b ha hb

/-- Numbers by space. -/
def MapU (w : World) (m n : Nat) (g : Int → Int) : Prop :=
  ∃ D : DataW Unit, w.ownsMap Try.prog 3 Rv m n D ∧ ∀ s, Whole s → D.atKey (.int .i64 s) (.lit (.int .u64 0)) = .lit (.int .u64 (g s))
def setU (g : Int → Int) (s v : Int) : Int → Int := fun a => if a = s then v else g a
theorem MapU.made (w : World) : MapU (w.alloc (.map #[] 0)) w.heap.size 0 fun _ => 0 := ⟨_, World.ownsMap_made w Try.prog 3 Rv, fun _ _ => rfl⟩
theorem MapU.block {w w' : World} {m n : Nat} {g : Int → Int} (h : MapU w m n g) (hh : w'.heap[m]? = w.heap[m]?) : MapU w' m n g := by
  obtain ⟨D, h1, h2⟩ := h
  exact ⟨D, owns_block h1 hh, h2⟩
theorem MapU.mono {w : World} {m n n' : Nat} {g : Int → Int} (h : MapU w m n g) (hn : n ≤ n') : MapU w m n' g := by
  obtain ⟨D, h1, h2⟩ := h
  exact ⟨D, h1.mono hn, h2⟩
theorem MapU.look {w : World} {m n : Nat} {g : Int → Int} (h : MapU w m n g) {s : Int} (hs : Whole s) :
    (Instr.lookup 31 (.map (some m)) (.int .i64 s) false).run Try.prog w = .ok (.int .u64 (g s)) w := by
  obtain ⟨D, h1, h2⟩ := h
  obtain ⟨v, ps, hr, hv⟩ := h1.lookup law3 Try.underlying31 (zero33 w) (zd := .lit (.int .u64 0)) (zp := []) rfl (keyOf_int_mk Try.underlying3 (wf_i64 hs))
  rw [h2 s hs] at hv
  rw [Rv_int hv] at hr
  exact hr
theorem MapU.store {w : World} {m n : Nat} {g : Int → Int} (h : MapU w m n g) {s : Int} (hs : Whole s) (v : Int) (hn : n < maxLen) :
    ∃ w', (Instr.mapUpdate 31 (.map (some m)) (.int .i64 s) (.int .u64 v)).run Try.prog w = .ok () w' ∧ MapU w' m (n + 1) (setU g s v) ∧ w.mapTurned w' m := by
  obtain ⟨D, h1, h2⟩ := h
  obtain ⟨w', hr, ho, ht⟩ := h1.store law3 Try.underlying31 hn (keyOf_int_mk Try.underlying3 (wf_i64 hs)) (val := .int .u64 v) (d := .lit (.int .u64 v)) (ps := []) rfl
  refine ⟨w', hr, ⟨_, ho, fun a ha => ?_⟩, ht⟩
  unfold setU
  split
  · rename_i e
    rw [e]
    exact atKey_put_same h1.isMap (law3.key (keyOf_int_mk Try.underlying3 (wf_i64 hs))) _ _
  · rename_i e
    rw [atKey_put_other (fun e2 => e (by injection e2))]
    exact h2 a ha

/-- Streams by id. -/
def MapP (w : World) (m n : Nat) (g : Int → Option Nat) : Prop :=
  ∃ D : DataW Unit, w.ownsMap Try.prog 33 Rv m n D ∧ ∀ s, Word s → Maps.has D (.int .u64 s) = (g s).isSome ∧ ∀ p, g s = some p → D.atKey (.int .u64 s) .nil = .ptr (.lit (.int .i64 p))
def setP (g : Int → Option Nat) (s : Int) (p : Nat) : Int → Option Nat := fun a => if a = s then some p else g a
theorem MapP.made (w : World) : MapP (w.alloc (.map #[] 0)) w.heap.size 0 fun _ => none := ⟨_, World.ownsMap_made w Try.prog 33 Rv, fun _ _ => ⟨rfl, fun _ h => by cases h⟩⟩
theorem MapP.block {w w' : World} {m n : Nat} {g : Int → Option Nat} (h : MapP w m n g) (hh : w'.heap[m]? = w.heap[m]?) : MapP w' m n g := by
  obtain ⟨D, h1, h2⟩ := h
  exact ⟨D, owns_block h1 hh, h2⟩
theorem MapP.mono {w : World} {m n n' : Nat} {g : Int → Option Nat} (h : MapP w m n g) (hn : n ≤ n') : MapP w m n' g := by
  obtain ⟨D, h1, h2⟩ := h
  exact ⟨D, h1.mono hn, h2⟩
theorem MapP.hit {w : World} {m n : Nat} {g : Int → Option Nat} (h : MapP w m n g) {s : Int} (hs : Word s) {p : Nat} (hp : g s = some p) :
    (Instr.lookup 50 (.map (some m)) (.int .u64 s) true).run Try.prog w = .ok (.tuple #[.pointer (some ⟨p, 0, none⟩), .bool true]) w := by
  obtain ⟨D, h1, h2⟩ := h
  obtain ⟨v, ps, hr, hv⟩ := h1.look_ok law33 Try.underlying50 (zero62 w) (zd := .nil) (zp := []) rfl (keyOf_int_mk Try.underlying33 (wf_u64 hs))
  obtain ⟨e1, e2⟩ := h2 s hs
  rw [e2 p hp] at hv
  rw [Rv_ptr hv, e1, hp] at hr
  exact hr
theorem MapP.miss {w : World} {m n : Nat} {g : Int → Option Nat} (h : MapP w m n g) {s : Int} (hs : Word s) (hp : g s = none) :
    ∃ v, (Instr.lookup 50 (.map (some m)) (.int .u64 s) true).run Try.prog w = .ok (.tuple #[v, .bool false]) w := by
  obtain ⟨D, h1, h2⟩ := h
  obtain ⟨v, ps, hr, hv⟩ := h1.look_ok law33 Try.underlying50 (zero62 w) (zd := .nil) (zp := []) rfl (keyOf_int_mk Try.underlying33 (wf_u64 hs))
  obtain ⟨e1, -⟩ := h2 s hs
  rw [e1, hp] at hr
  exact ⟨v, hr⟩
theorem MapP.store {w : World} {m n : Nat} {g : Int → Option Nat} (h : MapP w m n g) {s : Int} (hs : Word s) (p : Nat) (hn : n < maxLen) :
    ∃ w', (Instr.mapUpdate 50 (.map (some m)) (.int .u64 s) (.pointer (some ⟨p, 0, none⟩))).run Try.prog w = .ok () w' ∧ MapP w' m (n + 1) (setP g s p) ∧ w.mapTurned w' m := by
  obtain ⟨D, h1, h2⟩ := h
  have hk := keyOf_int_mk Try.underlying33 (wf_u64 hs)
  obtain ⟨w', hr, ho, ht⟩ := h1.store law33 Try.underlying50 hn hk (val := .pointer (some ⟨p, 0, none⟩)) (d := .ptr (.lit (.int .i64 p))) (ps := []) (by simp [Rv])
  refine ⟨w', hr, ⟨_, ho, fun a ha => ?_⟩, ht⟩
  unfold setP
  split
  · rename_i e
    rw [e]
    refine ⟨has_put_same h1.isMap (law33.key hk) _, fun q hq => ?_⟩
    injection hq with hq
    rw [← hq]
    exact atKey_put_same h1.isMap (law33.key hk) _ _
  · rename_i e
    have hne : Lit.int .u64 a ≠ Lit.int .u64 s := fun e2 => e (by injection e2)
    rw [has_put_other hne]
    refine ⟨(h2 a ha).1, fun q hq => ?_⟩
    rw [atKey_put_other hne]
    exact (h2 a ha).2 q hq
theorem turned_other {w w' : World} {m b : Nat} (h : w.mapTurned w' m) (hb : b ≠ m) : w'.heap[b]? = w.heap[b]? := by
  obtain ⟨es, c, es', c', h1, rfl⟩ := h
  exact Go.ChangeMaps.heap_setBlock_other h1 _ hb
theorem turned_size {w w' : World} {m : Nat} (h : w.mapTurned w' m) : w'.heap.size = w.heap.size := by
  obtain ⟨es, c, es', c', h1, rfl⟩ := h
  simp [Go.ChangeMaps.setBlock]
end Go.Proofs.Ytiefkpfjmbifcaa

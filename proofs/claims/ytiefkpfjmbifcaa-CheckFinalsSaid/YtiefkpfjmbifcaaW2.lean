/-
  A stream by its id, the limit of one, the streams' moving: the walks.
-/
import Derived.Test.YtiefkpfjmbifcaaMem
namespace Go.Proofs.Ytiefkpfjmbifcaa
open Go.RowKit Go.Maps

def zeroS : Array Value := #[.int .u64 0, .int .u64 0, .int .u64 0, .bool false, .bool false, .int .u64 0, .int .u64 0]
theorem SB.new (w : World) (t : TypeId) : SB (w.alloc (.cells #[.int .u64 0, .int .u64 0, .int .u64 0, .bool false, .bool false, .int .u64 0, .int .u64 0] t)) w.heap.size Strm.zero := by
  refine ⟨⟨?_, ?_, ?_, ?_, ?_, ?_, ?_⟩, fun i _ => ?_, ⟨_, t, (Go.MapKept.heap_alloc w _).1⟩⟩ <;> simp [go_sem, Strm.zero]
theorem CK.newS {w w' : World} {M : Mem} {n : Nat} {s : St} (h : CK w M n s) {id : Int} (hid : Word id) (hp : M.g id = none) {t : TypeId}
    (ht : (w.alloc (.cells #[.int .u64 0, .int .u64 0, .int .u64 0, .bool false, .bool false, .int .u64 0, .int .u64 0] t)).mapTurned w' M.m5) (hm : MapP w' M.m5 (n + 1) (setP M.g id w.heap.size)) :
    CK w' { M with g := setP M.g id w.heap.size } (n + 1) s ∧ Kept M w w' ∧ Grew w M { M with g := setP M.g id w.heap.size } := by
  have ha := h.below ((Below.refl _ w).alloc (Nat.le_refl _) (.cells #[.int .u64 0, .int .u64 0, .int .u64 0, .bool false, .bool false, .int .u64 0, .int .u64 0] t))
  have hk : ∀ b, b ≠ M.m5 → w'.heap[b]? = _ := fun b hb => turned_other ht hb
  have hnd := h.nd
  simp [Mem.fix] at hnd
  obtain ⟨⟨a1, a2, a3, a4, a5⟩, ⟨b2, b3, b4, b5⟩, ⟨c3, c4, c5⟩, ⟨d4, d5⟩, d6⟩ := hnd
  have fresh : ∀ b, M.owns b → b ≠ w.heap.size := fun b hb => by have := h.lt hb; omega
  have h5 : M.m5 ≠ w.heap.size := fresh _ (.inl M.fix_mem.2.2.2.2.2)
  refine ⟨{ ha with
    cells := cells_block ha.cells (hk _ a5), free := free_block ha.free (hk _ a5), nd := h.nd,
    gfar := fun i q hq => ?_, ginj := fun i i' q hq hq' => ?_, gword := fun i q hq => ?_,
    sent := (ha.sent.block (hk _ b5)).mono (by omega), asks := (ha.asks.block (hk _ c5)).mono (by omega), got := (ha.got.block (hk _ d5)).mono (by omega), settled := (ha.settled.block (hk _ d6)).mono (by omega),
    streams := hm, strm := fun i => ⟨fun q hq => ?_, fun hq => ?_⟩, total := ?_, going := h.going }, ?_, rfl, rfl, fun b hb => ?_, fun i q hq => ?_⟩
  · simp only [setP] at hq
    split at hq
    · injection hq with hq
      intro hf
      exact fresh q (.inl hf) hq.symm
    · exact h.gfar i q hq
  · simp only [setP] at hq hq'
    split at hq <;> split at hq'
    · rename_i e e'; rw [e, e']
    · injection hq with hq
      exact absurd hq.symm (fresh q (.inr ⟨i', hq'⟩))
    · injection hq' with hq'
      exact absurd hq'.symm (fresh q (.inr ⟨i, hq⟩))
    · exact h.ginj i i' q hq hq'
  · simp only [setP] at hq
    split at hq
    · rename_i e; rw [e]; exact hid
    · exact h.gword i q hq
  · simp only [setP] at hq
    split at hq
    · rename_i e
      injection hq with hq
      subst hq e
      rw [(h.strm i).2 hp]
      exact sb_block (SB.new w t) (hk _ (Ne.symm h5))
    · exact sb_block ((ha.strm i).1 q hq) (hk _ (fun e => h.gfar i q hq (e ▸ M.fix_mem.2.2.2.2.2)))
  · simp only [setP] at hq
    split at hq
    · cases hq
    · exact (h.strm i).2 hq
  · obtain ⟨ids, h1, h2, h3⟩ := h.total
    refine ⟨id :: ids, List.nodup_cons.2 ⟨(fun e => by have := (h2 id).1 e; rw [hp] at this; cases this), h1⟩, fun i => ?_, ?_⟩
    · simp only [List.mem_cons, setP, h2]
      by_cases e : i = id <;> simp [e]
    · rw [h3, List.map_cons, List.sum_cons, (h.strm id).2 hp]
      simp [Strm.zero]
  · refine ⟨((Below.refl 0 w).alloc (Nat.zero_le _) _).grown ht.grown (Nat.zero_le _) (fun _ _ => Nat.zero_le _), fun b hb hn => ?_⟩
    rw [hk b (fun e => hn (.inl (e ▸ M.fix_mem.2.2.2.2.2)))]
    exact Below.heap_alloc w _ b hb
  · rcases hb with hb | ⟨i, hb⟩
    · exact .inl (.inl hb)
    · simp only [setP] at hb
      split at hb
      · injection hb with hb
        exact .inr (by omega)
      · exact .inl (.inr ⟨i, hb⟩)
  · show (if i = id then some w.heap.size else M.g i) = some q
    rw [if_neg (fun e => by rw [e, hp] at hq; cases hq)]
    exact hq

def OfPost (M : Mem) (n : Nat) (s : St) (id : Int) (w : World) (r : Ending) (w' : World) : Prop :=
  ∃ (p : Nat) (g' : Int → Option Nat), r = .returned (.pointer (some ⟨p, 0, none⟩)) ∧ g' id = some p ∧ CK w' { M with g := g' } (n + 1) s ∧ Kept M w w' ∧ Grew w M { M with g := g' }
set_option maxRecDepth 100000 in
set_option maxHeartbeats 2000000 in
theorem of_any {w : World} {M : Mem} {n : Nat} {s : St} (h : CK w M n s) {id : Int} (hid : Word id) (hn : n < maxLen) :
    Calls Try.prog 23 #[.pointer (some ⟨M.B, 0, none⟩), .int .u64 id] w (OfPost M n s id w) := by
  have hh := Lib.hid h
  obtain ⟨-, -, -, -, -, -, -, -, -, -, -, -, -, -, -, k24⟩ := h.cells
  have hB : M.B < w.heap.size := World.block_lt_of_cell? _ _ k24
  have hB1 : M.B ≠ w.heap.size := by omega
  cases hp : M.g id with
  | some p =>
    have hl := h.streams.hit hid hp
    clear h
    go_enter Try.func23, Try.ntmps23
    go_wp2_with fail
    go_ret
    exact ⟨p, M.g, rfl, hp, hh.out.mono (by omega), .refl M w, .refl w M⟩
  | none =>
    obtain ⟨v, hl⟩ := h.streams.miss hid hp
    obtain ⟨w2, hr, hm, ht⟩ := (h.below ((Below.refl _ w).alloc (Nat.le_refl _) (.cells #[.int .u64 0, .int .u64 0, .int .u64 0, .bool false, .bool false, .int .u64 0, .int .u64 0] 61))).streams.store hid w.heap.size hn
    have hfin := Lib.hid (h.newS hid hp ht hm)
    clear h hm ht
    go_enter Try.func23, Try.ntmps23
    go_wp2_with fail
    go_ret
    exact ⟨_, _, rfl, by simp [setP], hfin.out⟩
end Go.Proofs.Ytiefkpfjmbifcaa

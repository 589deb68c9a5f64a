/-
  The law CongRuns: the walk.
-/
import Derived.Test.YtiddiiiffjibfaaL3
import Derived.Test.YtiddiiiffjibfaaW4
namespace Go.Proofs.Ytiddiiiffjibfaa
open Go.RowKit

theorem neq26' (a l s : Int) (f : Bool) (a' l' s' : Int) (f' : Bool) (w : World) :
    (binOp .neq 26 (.agg #[.int .u64 a, .int .u64 l, .int .u64 s, .bool f]) (.agg #[.int .u64 a', .int .u64 l', .int .u64 s', .bool f'])).run Try.prog w = .ok (.bool (!ceq a l s f a' l' s' f')) w := by
  unfold ceq
  cases h1 : a == a' <;> cases h2 : l == l' <;> cases h3 : s == s' <;> cases h4 : f == f' <;> simp [go_sem, h1, h2, h3, h4]

/-- Block b is a deed. -/
def XB (w : World) (b : Nat) (d : Deed) : Prop :=
  b < w.heap.size ∧ w.cell? ⟨b, 0, none⟩ = some (.int .i64 d.k) ∧ w.cell? ⟨b, 1, none⟩ = some (.int .u64 d.n) ∧ w.cell? ⟨b, 2, none⟩ = some (.int .u64 d.t) ∧ w.cell? ⟨b, 3, none⟩ = some (.int .u64 d.now)
theorem XB.newAt {w : World} {b : Nat} (hb : b = w.heap.size) (d : Deed) (t : TypeId) : XB (w.alloc (.cells #[.int .i64 d.k, .int .u64 d.n, .int .u64 d.t, .int .u64 d.now] t)) b d := by
  subst hb
  refine ⟨by simp, ?_, ?_, ?_, ?_⟩ <;> simp [go_sem]
theorem XB.below {W w1 : World} {b : Nat} {d : Deed} (h : XB W b d) (hb : Below W.heap.size W w1) : XB w1 b d := by
  obtain ⟨hz, k0, k1, k2, k3⟩ := h
  exact ⟨Nat.lt_of_lt_of_le hz hb.size, (hb.cell hz).trans k0, (hb.cell hz).trans k1, (hb.cell hz).trans k2, (hb.cell hz).trans k3⟩
theorem XB.far {w : World} {b : Nat} {d : Deed} (h : XB w b d) {p : Addr} (hp : b ≠ p.block) (v : Value) : XB (w.setCell p v) b d := by
  obtain ⟨hz, k0, k1, k2, k3⟩ := h
  have hh : (w.setCell p v).heap[b]? = w.heap[b]? := Below.heap_setCell w p v b hp
  have ec : ∀ i, (w.setCell p v).cell? ⟨b, i, none⟩ = w.cell? ⟨b, i, none⟩ := fun i => World.cell?_of_block (a := ⟨b, i, none⟩) hh
  exact ⟨by simpa using hz, (ec 0).trans k0, (ec 1).trans k1, (ec 2).trans k2, (ec 3).trans k3⟩
theorem XB.far4 {w : World} {b : Nat} {d : Deed} (h : XB w b d) {g : Nat} (hp : b ≠ g) (v0 v1 v2 v3 : Value) :
    XB ((((w.setCell ⟨g, 0, none⟩ v0).setCell ⟨g, 1, none⟩ v1).setCell ⟨g, 2, none⟩ v2).setCell ⟨g, 3, none⟩ v3) b d :=
  (((h.far (p := ⟨g, 0, none⟩) hp v0).far (p := ⟨g, 1, none⟩) hp v1).far (p := ⟨g, 2, none⟩) hp v2).far (p := ⟨g, 3, none⟩) hp v3
theorem Blk.far4 {w : World} {b : Nat} {c : Ctl} (h : Blk w b c) {g : Nat} (hp : b ≠ g) (v0 v1 v2 v3 : Value) :
    Blk ((((w.setCell ⟨g, 0, none⟩ v0).setCell ⟨g, 1, none⟩ v1).setCell ⟨g, 2, none⟩ v2).setCell ⟨g, 3, none⟩ v3) b c :=
  (((h.far (p := ⟨g, 0, none⟩) hp v0).far (p := ⟨g, 1, none⟩) hp v1).far (p := ⟨g, 2, none⟩) hp v2).far (p := ⟨g, 3, none⟩) hp v3

set_option maxRecDepth 100000 in
set_option maxHeartbeats 4000000 in
theorem runs_any (A : Option Addr) (n cap : Nat) (x : Nat → Deed) (w : World) (hx : Acts w w.heap.size A n x) (hn : n ≤ 9223372036854775807) :
    Calls Try.prog 4 #[.slice A n cap] w fun e w' => e = .returned (.bool true) ∧ Below w.heap.size w w' := by
  go_enter Try.func4, Try.ntmps4
  go_wp2_with (first | (go_at_call 10; refine (awake_any _).mono ?_; rintro e w1 ⟨rfl, hb⟩) | (go_at_call 18; refine (first_any _).mono ?_; rintro e w' ⟨rfl, c1, rfl⟩))
  have hs1 : w.heap.size ≤ w1.heap.size := hb.size
  go_loopw [5] (fun v wr => ∃ j : Nat, j ≤ n ∧ j ≤ 200 ∧ v = .int .i64 j ∧ Blk wr (w1.heap.size + 1) (runC x j) ∧ Blk wr (w1.heap.size + 1 + 1) (runC x j) ∧ Below w.heap.size w wr) (fun v _ => n - (intOf v).toNat)
  case atStart => exact ⟨0, by omega, by omega, by simp, (Blk.newAt (by simp) firstC 24).alloc _, Blk.newAt (by simp) firstC 26, by go_grown⟩
  case round =>
    obtain ⟨j, hj, hj2, rfl, hk, hr, hB⟩ := hrel
    have hx2 := hx.below hB
    have hw : Word (runC x j).w := (run_ok hx.ok j hj).1
    have hxn : j < n → Word (x j).n := fun h => (hx.ok j h).1
    have hs2 : w.heap.size ≤ wr.heap.size := hB.size
    have hk0 := Lib.hid hk
    have hr0 := Lib.hid hr
    have hne1 : w1.heap.size + 1 ≠ w1.heap.size + 1 + 1 := by omega
    have hne2 : wr.heap.size ≠ w1.heap.size + 1 := Ne.symm (Nat.ne_of_lt hk0.out.1)
    have hne3 : wr.heap.size ≠ w1.heap.size + 1 + 1 := Ne.symm (Nat.ne_of_lt hr0.out.1)
    obtain ⟨⟨k0, k1, k2, k3⟩, ⟨f0, f1, f2, f3⟩, -⟩ := hk.reads
    by_cases hlt : j < n ∧ j < 200
    · obtain ⟨hlt, h200⟩ := hlt
      obtain ⟨b, off, rfl, hbB, ⟨a0, a1, a2, a3⟩, aok⟩ := hx2 j hlt
      clear hx2 hk
      have hxn := hxn hlt
      go_upto_region 9 with fail
      obtain ⟨⟨m0, m1, m2, m3⟩, -⟩ := (hk0.out.alloc (.cells #[.int .i64 (x j).k, .int .u64 (x j).n, .int .u64 (x j).t, .int .u64 (x j).now] 36)).reads
      go_cut [] (fun wx => Blk wx (w1.heap.size + 1) (playC (runC x j) (x j)) ∧ Blk wx (w1.heap.size + 1 + 1) (runC x j) ∧ XB wx wr.heap.size (x j) ∧ Below w.heap.size w wx)
      case first =>
        go_wp2_with (go_at_call 19; (with_reducible refine (play_any (runC x j) (x j) hw hxn _).mono ?_); rintro e w' ⟨rfl, hp⟩; have hp0 := Lib.hid hp; have hq := Lib.hid ((hk0.out.alloc _).below hp); obtain ⟨⟨o0, o1, o2, o3⟩, ⟨g0, g1, g2, g3⟩, -⟩ := hq.out.reads; clear hp)
        go_meet
        exact ⟨hq.out.store, ((hr0.out.alloc _).below hp0.out).far4 (Ne.symm hne1) _ _ _ _, ((XB.newAt rfl (x j) 36).below hp0.out).far4 hne2 _ _ _ _,
          ((((hB.trans (Below.trans ((Below.refl _ wr).alloc hs2 _) (hp0.out.mono (by simp; omega)))).setCell (p := ⟨w1.heap.size + 1, 0, none⟩) (by simp; omega) _).setCell (p := ⟨w1.heap.size + 1, 1, none⟩) (by simp; omega) _).setCell (p := ⟨w1.heap.size + 1, 2, none⟩) (by simp; omega) _).setCell (p := ⟨w1.heap.size + 1, 3, none⟩) (by simp; omega) _⟩
      case rest =>
        obtain ⟨hd, hr', hX, hB2⟩ := hcut
        have hs3 := hB2.size
        have hr1 := Lib.hid hr'
        obtain ⟨⟨t0, t1, t2, t3⟩, ⟨v0, v1, v2, v3⟩, -⟩ := hr'.reads
        obtain ⟨-, y0, y1, y2, y3⟩ := hX
        have q26 := neq26'
        have es := ceq_self
        clear hr' hr hk0 hr0 k0 k1 k2 k3 f0 f1 f2 f3 m0 m1 m2 m3 a0 a1 a2 a3
        by_cases h0 : (x j).k = 0
        · have e0 : playC (runC x j) (x j) = ackC (runC x j) (x j).n (x j).t := by unfold playC; rw [if_pos h0]
          rw [e0] at hd
          have hS := Lib.hid (show runC x (j + 1) = ackC (runC x j) (x j).n (x j).t from e0)
          have hd0 := Lib.hid hd
          obtain ⟨⟨d0, d1, d2, d3⟩, -⟩ := hd.reads
          clear hd e0
          go_wp2_with (go_at_call 13; refine (racked_any (runC x j) _ _ hw hxn _).mono ?_; rintro e w' ⟨rfl, o1, o2, rfl⟩; obtain ⟨⟨r0, r1, r2, r3⟩, ⟨g0, g1, g2, g3⟩, -⟩ := ((hr1.out.alloc (.cells o1 26)).alloc (.cells o2 26)).reads; obtain ⟨⟨p0, p1, p2, p3⟩, -⟩ := ((hd0.out.alloc (.cells o1 26)).alloc (.cells o2 26)).reads)
          go_roundw
          case rel => exact ⟨j + 1, by omega, by omega, by go_num, by rw [hS.out]; exact ((hd0.out.alloc _).alloc _).far4 hne1 _ _ _ _, by rw [hS.out]; exact ((hr1.out.alloc _).alloc _).store, by go_grown⟩
          case measure => simp [intOf]; omega
        · by_cases h1 : (x j).k = 1
          · have e0 : playC (runC x j) (x j) = lostC (runC x j) (x j).t (x j).now := by unfold playC; rw [if_neg h0, if_pos h1]
            clear h0
            rw [e0] at hd
            have hS := Lib.hid (show runC x (j + 1) = lostC (runC x j) (x j).t (x j).now from e0)
            have hd0 := Lib.hid hd
            obtain ⟨⟨d0, d1, d2, d3⟩, -⟩ := hd.reads
            clear hd e0
            go_wp2_with (go_at_call 15; refine (rlost_any (runC x j) _ _ hw _).mono ?_; rintro e w' ⟨rfl, o1, o2, rfl⟩; obtain ⟨⟨r0, r1, r2, r3⟩, ⟨g0, g1, g2, g3⟩, -⟩ := ((hr1.out.alloc (.cells o1 26)).alloc (.cells o2 26)).reads; obtain ⟨⟨p0, p1, p2, p3⟩, -⟩ := ((hd0.out.alloc (.cells o1 26)).alloc (.cells o2 26)).reads)
            go_roundw
            case rel => exact ⟨j + 1, by omega, by omega, by go_num, by rw [hS.out]; exact ((hd0.out.alloc _).alloc _).far4 hne1 _ _ _ _, by rw [hS.out]; exact ((hr1.out.alloc _).alloc _).store, by go_grown⟩
            case measure => simp [intOf]; omega
          · by_cases h2 : (x j).k = 2
            · have e0 : playC (runC x j) (x j) = stuckC (runC x j) := by unfold playC; rw [if_neg h0, if_neg h1, if_pos h2]
              clear h0 h1
              rw [e0] at hd
              have hS := Lib.hid (show runC x (j + 1) = stuckC (runC x j) from e0)
              have hd0 := Lib.hid hd
              obtain ⟨⟨d0, d1, d2, d3⟩, -⟩ := hd.reads
              clear hd e0
              simp only [stuckC] at d0 d1 d2 d3
              go_wp2_with fail
              go_roundw
              case rel => exact ⟨j + 1, by omega, by omega, by go_num, by rw [hS.out]; exact hd0.out.far4 hne1 _ _ _ _, by rw [hS.out]; exact hr1.out.store (d := stuckC (runC x j)), by go_grown⟩
              case measure => simp [intOf]; omega
            · have e0 : playC (runC x j) (x j) = runC x j := by unfold playC; rw [if_neg h0, if_neg h1, if_neg h2]
              have u0 : ((x j).k == 0) = false := by simpa using h0
              have u1 : ((x j).k == 1) = false := by simpa using h1
              have u2 : ((x j).k == 2) = false := by simpa using h2
              clear h0 h1 h2
              rw [e0] at hd
              have hS := Lib.hid (show runC x (j + 1) = runC x j from e0)
              have hd0 := Lib.hid hd
              obtain ⟨⟨d0, d1, d2, d3⟩, -⟩ := hd.reads
              clear hd e0
              go_wp2_with fail
              go_roundw
              case rel => exact ⟨j + 1, by omega, by omega, by go_num, by rw [hS.out]; exact hd0.out, by rw [hS.out]; exact hr1.out, by go_grown⟩
              case measure => simp [intOf]; omega
    · have hex : n ≤ j ∨ (j < n ∧ (200 : Int) ≤ (j : Int)) := by omega
      clear hlt hk hx2 hr
      rcases hex with hex | ⟨hex, hex2⟩
      all_goals
        go_wp2_with fail
        go_ret
        exact ⟨rfl, hB⟩
end Go.Proofs.Ytiddiiiffjibfaa

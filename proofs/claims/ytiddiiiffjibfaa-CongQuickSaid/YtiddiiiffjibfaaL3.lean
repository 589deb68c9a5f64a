/-
  The law CongHolds: the walk.
-/
import Derived.Test.YtiddiiiffjibfaaBlk
import Derived.Test.YtiddiiiffjibfaaW5
import Derived.Test.YtiddiiiffjibfaaPure
import Derived.Deep.DeepCutAuto
namespace Go.Proofs.Ytiddiiiffjibfaa
open Go.RowKit

/-- The slice of deeds that came in: the k-th lies at its address. -/
def Acts (w : World) (B : Nat) (A : Option Addr) (n : Nat) (x : Nat → Deed) : Prop :=
  ∀ k, k < n → ∃ b off, A = some ⟨b, off, none⟩ ∧ b < B ∧ (w.cell? ⟨b, off + k * 4, none⟩ = some (.int .i64 (x k).k) ∧ w.cell? ⟨b, off + k * 4 + 1, none⟩ = some (.int .u64 (x k).n) ∧
    w.cell? ⟨b, off + k * 4 + 2, none⟩ = some (.int .u64 (x k).t) ∧ w.cell? ⟨b, off + k * 4 + 3, none⟩ = some (.int .u64 (x k).now)) ∧ (x k).Ok
theorem Acts.below {w w' : World} {B : Nat} {A : Option Addr} {n : Nat} {x : Nat → Deed} (h : Acts w B A n x) (hb : Below B w w') : Acts w' B A n x := fun k hk => by
  obtain ⟨b, off, e, hB, ⟨h0, h1, h2, h3⟩, ok⟩ := h k hk
  exact ⟨b, off, e, hB, ⟨(hb.cell hB).trans h0, (hb.cell hB).trans h1, (hb.cell hB).trans h2, (hb.cell hB).trans h3⟩, ok⟩

theorem below_drew {w w' : World} (hp : Below w.drew.heap.size w.drew w') : Below w.heap.size w w' := Below.trans (Below.refl _ w).drew (Below.mono hp (Nat.le_refl _))
theorem below_allocDrew {w w' : World} {o : Obj} (hp : Below (w.alloc o).drew.heap.size (w.alloc o).drew w') : Below w.heap.size w w' :=
  Below.trans ((Below.refl _ w).alloc (Nat.le_refl _) _).drew (Below.mono hp (by simp))
theorem new_allocDrew {w w' : World} (hp : Below (w.alloc (.cells #[.int .u64 0, .int .u64 0, .int .u64 0, .bool false] 24)).drew.heap.size (w.alloc (.cells #[.int .u64 0, .int .u64 0, .int .u64 0, .bool false] 24)).drew w') :
    Blk w' w.heap.size ⟨0, 0, 0, false⟩ := Blk.below (Blk.newAt (b := w.heap.size) (w := w) rfl ⟨0, 0, 0, false⟩ 24).drew hp

theorem Acts.ok {w : World} {B : Nat} {A : Option Addr} {n : Nat} {x : Nat → Deed} (h : Acts w B A n x) : ∀ k, k < n → (x k).Ok := fun k hk => by
  obtain ⟨_, _, _, _, _, ok⟩ := h k hk
  exact ok

set_option maxRecDepth 100000 in
set_option maxHeartbeats 1000000 in
theorem holds_any (A : Option Addr) (n cap : Nat) (x : Nat → Deed) (w : World) (hx : Acts w w.heap.size A n x) (hn : n ≤ 9223372036854775807) :
    Calls Try.prog 5 #[.slice A n cap] w fun e w' => e = .returned (.bool true) ∧ Below w.heap.size w w' := by
  go_enter Try.func5, Try.ntmps5
  go_wp2_with (first | (go_at_call 10; refine (awake_any _).mono ?_; rintro e w1 ⟨rfl, hb⟩) | (go_at_call 18; refine (first_any _).mono ?_; rintro e w' ⟨rfl, c1, rfl⟩))
  have hs1 : w.heap.size ≤ w1.heap.size := hb.size
  go_loopw [4] (fun v wr => ∃ j : Nat, j ≤ n ∧ j ≤ 200 ∧ v = .int .i64 j ∧ Blk wr (w1.heap.size + 1) (runC x j) ∧ Below w.heap.size w wr) (fun v _ => n - (intOf v).toNat)
  case atStart => exact ⟨0, by omega, by omega, by simp, Blk.newAt (by simp) firstC 24, by go_grown⟩
  case round =>
    obtain ⟨j, hj, hj2, rfl, hk, hB⟩ := hrel
    have hx2 := hx.below hB
    have hw : Word (runC x j).w := (run_ok hx.ok j hj).1
    have hxn : j < n → Word (x j).n := fun h => (hx.ok j h).1
    have hs2 : w.heap.size ≤ wr.heap.size := hB.size
    have hk0 := Lib.hid hk
    obtain ⟨⟨k0, k1, k2, k3⟩, ⟨f0, f1, f2, f3⟩, _⟩ := hk.reads
    by_cases hlt : j < n
    · by_cases h200 : j < 200
      · obtain ⟨b, off, rfl, hbB, ⟨a0, a1, a2, a3⟩, aok⟩ := hx2 j hlt
        clear hx2 hk
        have hxn := hxn hlt
        have hne : w1.heap.size + 1 ≠ wr.heap.size := Nat.ne_of_lt hk0.out.1
        go_upto_region 7 with fail
        go_cut [5] (fun s5 wx => ∃ g : Nat, s5 = .pointer (some ⟨g, 0, none⟩) ∧ Blk wx g (playC (runC x j) (x j)) ∧ Blk wx (w1.heap.size + 1) (runC x j) ∧ Below wr.heap.size wr wx)
        case first =>
          go_region_held3 (fun w' => w'.cell? ⟨w1.heap.size + 1, 0, none⟩ = some (.int .u64 (runC x j).w) ∧ w'.cell? ⟨w1.heap.size + 1, 1, none⟩ = some (.int .u64 (runC x j).l) ∧ w'.cell? ⟨w1.heap.size + 1, 2, none⟩ = some (.int .u64 (runC x j).s) ∧ w'.cell? ⟨w1.heap.size + 1, 3, none⟩ = some (.bool (runC x j).f) ∧
              w'.cell? ⟨b, off + j * 4, none⟩ = some (.int .i64 (x j).k) ∧ w'.cell? ⟨b, off + j * 4 + 1, none⟩ = some (.int .u64 (x j).n) ∧ w'.cell? ⟨b, off + j * 4 + 2, none⟩ = some (.int .u64 (x j).t) ∧ w'.cell? ⟨b, off + j * 4 + 3, none⟩ = some (.int .u64 (x j).now))
            (refine ⟨cell_later ?_ k0, cell_later ?_ k1, cell_later ?_ k2, cell_later ?_ k3, cell_later ?_ a0, cell_later ?_ a1, cell_later ?_ a2, cell_later ?_ a3⟩ <;> go_grown)
            (first
              | (go_at_call 19; (with_reducible refine (play_any (runC x j) (x j) hw hxn wr.drew).mono ?_); rintro e w' ⟨rfl, hp⟩; have hp1 := below_drew hp; have hs3 := hp1.size; clear hp)
              | (go_at_call 19; (with_reducible refine (play_any (runC x j) (x j) hw hxn (wr.alloc (.cells #[.int .u64 0, .int .u64 0, .int .u64 0, .bool false] 24)).drew).mono ?_); rintro e w' ⟨rfl, hp⟩; have hp1 := below_allocDrew hp; have hs3 := hp1.size; have hq := Lib.hid (new_allocDrew hp); obtain ⟨⟨m0, m1, m2, m3⟩, ⟨g0, g1, g2, g3⟩, _⟩ := (new_allocDrew hp).reads; clear hp))
          all_goals (go_wp2_with fail; go_meet)
          · exact ⟨_, rfl, Blk.newAt rfl _ _, (hk0.out.below hp1).alloc _, hp1.alloc hp1.size _⟩
          · exact ⟨_, rfl, hq.out.store, ((((hk0.out.below hp1).far (p := ⟨wr.heap.size, 0, none⟩) hne _).far (p := ⟨wr.heap.size, 1, none⟩) hne _).far (p := ⟨wr.heap.size, 2, none⟩) hne _).far (p := ⟨wr.heap.size, 3, none⟩) hne _,
              (((hp1.setCell (p := ⟨wr.heap.size, 0, none⟩) (Nat.le_refl _) _).setCell (p := ⟨wr.heap.size, 1, none⟩) (Nat.le_refl _) _).setCell (p := ⟨wr.heap.size, 2, none⟩) (Nat.le_refl _) _).setCell (p := ⟨wr.heap.size, 3, none⟩) (Nat.le_refl _) _⟩
        case rest =>
          obtain ⟨g, rfl, hd, hc, hp⟩ := hcut
          obtain ⟨⟨lo, hi⟩, up0, dn1⟩ := play_in (window_lies hx.ok j hj) (hx.ok j hlt)
          have e0 : wc.cell? ⟨b, off + j * 4, none⟩ = some (.int .i64 (x j).k) := cell_later hp a0
          have hd0 := Lib.hid hd
          have hc0 := Lib.hid hc
          obtain ⟨⟨m0, m1, m2, m3⟩, _⟩ := hd.reads
          obtain ⟨⟨n0, n1, n2, n3⟩, ⟨g0, g1, g2, g3⟩, _⟩ := hc.reads
          have hpz := hp.size
          have hB2 : Below w.heap.size w wc := hB.trans (hp.mono hs2)
          clear hd hc hk0 k0 k1 k2 k3 f0 f1 f2 f3 a0 a1 a2 a3
          by_cases h0 : (x j).k = 0
          · have up := up0 h0
            clear up0 dn1
            go_wp2_with fail
            go_roundw
            case rel => exact ⟨j + 1, by omega, by omega, by go_num, hc0.out.store (d := runC x (j + 1)), by go_grown⟩
            case measure => simp [intOf]; omega
          · have q0 : ((x j).k == 0) = false := by simpa using h0
            by_cases h1 : (x j).k = 1
            · have dn := dn1 h1
              clear up0 dn1 h0
              go_wp2_with fail
              go_roundw
              case rel => exact ⟨j + 1, by omega, by omega, by go_num, hc0.out.store (d := runC x (j + 1)), by go_grown⟩
              case measure => simp [intOf]; omega
            · have q1 : ((x j).k == 1) = false := by simpa using h1
              clear up0 dn1 h0 h1
              go_wp2_with fail
              go_roundw
              case rel => exact ⟨j + 1, by omega, by omega, by go_num, hc0.out.store (d := runC x (j + 1)), by go_grown⟩
              case measure => simp [intOf]; omega
      · have h200' : (200 : Int) ≤ (j : Int) := by omega
        go_wp2_with fail
        go_ret
        exact ⟨rfl, hB⟩
    · go_wp2_with fail
      go_ret
      exact ⟨rfl, hB⟩
end Go.Proofs.Ytiddiiiffjibfaa

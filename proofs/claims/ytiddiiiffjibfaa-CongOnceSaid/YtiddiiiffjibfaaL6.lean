/-
  The law CongOnce: the walk.
-/
import Derived.Test.YtiddiiiffjibfaaL3
import Derived.Test.YtiddiiiffjibfaaL5
import Derived.Deep.RegionWith
namespace Go.Proofs.Ytiddiiiffjibfaa
open Go.RowKit

/-- A control that is in recovery for t stays as it is. -/
theorem lost_stays (c : Ctl) (t now : Int) (hc : Word c.w) (hr : recv c.s c.f t = true) (w : World) :
    Calls Try.prog 14 #[.agg #[.int .u64 c.w, .int .u64 c.l, .int .u64 c.s, .bool c.f], .int .u64 t, .int .u64 now] w fun e w' => e = .returned (.agg #[.int .u64 c.w, .int .u64 c.l, .int .u64 c.s, .bool c.f]) ∧ Made3 w w' :=
  (lost_any c t now hc w).mono fun e w' ⟨he, hw⟩ => ⟨by rw [he]; unfold lostC; rw [if_pos hr], hw⟩
theorem acked_stays (c : Ctl) (n t : Int) (hc : Word c.w) (hn : Word n) (hr : recv c.s c.f t = true) (w : World) :
    Calls Try.prog 12 #[.agg #[.int .u64 c.w, .int .u64 c.l, .int .u64 c.s, .bool c.f], .int .u64 n, .int .u64 t] w fun e w' => e = .returned (.agg #[.int .u64 c.w, .int .u64 c.l, .int .u64 c.s, .bool c.f]) ∧ Made3 w w' :=
  (acked_any c n t hc hn w).mono fun e w' ⟨he, hw⟩ => ⟨by rw [he]; unfold ackC ackW; rw [if_pos (Or.inl hr)], hw⟩
theorem lost_fell (c : Ctl) (t now : Int) : (lostC c t now).f = true := by
  unfold lostC
  split
  · rename_i h; unfold recv at h; simp at h; exact h.1
  · rfl
theorem neq24 (a l s : Int) (f : Bool) (a' l' s' : Int) (f' : Bool) (w : World) :
    (binOp .neq 24 (.agg #[.int .u64 a, .int .u64 l, .int .u64 s, .bool f]) (.agg #[.int .u64 a', .int .u64 l', .int .u64 s', .bool f'])).run Try.prog w = .ok (.bool (!ceq a l s f a' l' s' f')) w := by
  unfold ceq
  cases h1 : a == a' <;> cases h2 : l == l' <;> cases h3 : s == s' <;> cases h4 : f == f' <;> simp [go_sem, h1, h2, h3, h4]
theorem neq26 (a l s : Int) (f : Bool) (a' l' s' : Int) (f' : Bool) (w : World) :
    (binOp .neq 26 (.agg #[.int .u64 a, .int .u64 l, .int .u64 s, .bool f]) (.agg #[.int .u64 a', .int .u64 l', .int .u64 s', .bool f'])).run Try.prog w = .ok (.bool (!ceq a l s f a' l' s' f')) w := by
  unfold ceq
  cases h1 : a == a' <;> cases h2 : l == l' <;> cases h3 : s == s' <;> cases h4 : f == f' <;> simp [go_sem, h1, h2, h3, h4]

set_option maxRecDepth 100000 in
set_option maxHeartbeats 8000000 in
theorem once_any (A : Option Addr) (n cap : Nat) (x : Nat → Deed) (t now : Int) (M : Option Addr) (m mcap : Nat) (z : Nat → Int) (w : World) (hx : Acts w w.heap.size A n x) (hn : n ≤ 9223372036854775807)
    (hz : Nums .u64 w w.heap.size M m z) (_hzb : ∀ k, k < m → Word (z k)) (hm : m ≤ 9223372036854775807) (_ht : Word t) (hnow : Word now) :
    Calls Try.prog 6 #[.slice A n cap, .int .u64 t, .int .u64 now, .slice M m mcap] w fun e w' => e = .returned (.bool true) ∧ Below w.heap.size w w' := by
  go_enter Try.func6, Try.ntmps6
  go_wp2_with (first | (go_at_call 10; refine (awake_any _).mono ?_; rintro e w1 ⟨rfl, hb⟩) | (go_at_call 18; refine (first_any _).mono ?_; rintro e w' ⟨rfl, c1, rfl⟩))
  have hs1 : w.heap.size ≤ w1.heap.size := hb.size
  go_loopw [10] (fun v wr => ∃ j : Nat, j ≤ n ∧ j ≤ 200 ∧ v = .int .i64 j ∧ Blk wr (w1.heap.size + 1) (runC x j) ∧ Below w.heap.size w wr) (fun v _ => n - (intOf v).toNat)
  case atStart => exact ⟨0, by omega, by omega, by simp, Blk.newAt (by simp) firstC 24, by go_grown⟩
  case round =>
    obtain ⟨j, hj, hj2, rfl, hk, hB⟩ := hrel
    have hx2 := hx.below hB
    have hwo := run_ok hx.ok j hj
    have hw : Word (runC x j).w := hwo.1
    have hxn : j < n → Word (x j).n := fun h => (hx.ok j h).1
    have hs2 : w.heap.size ≤ wr.heap.size := hB.size
    have hk0 := Lib.hid hk
    obtain ⟨⟨k0, k1, k2, k3⟩, ⟨f0, f1, f2, f3⟩, _⟩ := hk.reads
    by_cases hlt : j < n ∧ j < 200
    · obtain ⟨hlt, h200⟩ := hlt
      obtain ⟨b, off, rfl, hbB, ⟨a0, a1, a2, a3⟩, aok⟩ := hx2 j hlt
      clear hx2 hk
      have hxn := hxn hlt
      go_wp2_with fail
      go_region_with (go_at_call 19; (with_reducible refine (play_any (runC x j) (x j) hw hxn wr.drew).mono ?_); rintro e w' ⟨rfl, hp⟩; have hp1 := below_drew hp; have hs3 := hp1.size; have hB2 : Below w.heap.size w w' := hB.trans (hp1.mono hs2); have hq := Lib.hid (hk0.out.below hp1); obtain ⟨⟨m0, m1, m2, m3⟩, ⟨g0, g1, g2, g3⟩, _⟩ := (hk0.out.below hp1).reads; clear hp)
      all_goals
        go_wp2_with fail
        go_roundw
        case rel => exact ⟨j + 1, by omega, by omega, by go_num, hq.out.store (d := runC x (j + 1)), by go_grown⟩
        case measure => simp [intOf]; omega
    · have hex : n ≤ j ∨ (j < n ∧ (200 : Int) ≤ (j : Int)) := by omega
      have hfell := Lib.hid (lost_fell (runC x j) t now)
      have hcw : Word (lostC (runC x j) t now).w := (lostC_ok hwo hnow).1
      clear hlt hk hx2 hx
      rcases hex with hex | ⟨hex, hex2⟩
      all_goals
        go_wp2_with (first | (go_at_call 14; refine (lost_any (runC x j) _ _ hw _).mono ?_; rintro e w' ⟨rfl, c1, c2, c3, rfl⟩; obtain ⟨⟨m0, m1, m2, m3⟩, ⟨g0, g1, g2, g3⟩, _⟩ := (((hk0.out.alloc (.cells c1 24)).alloc (.cells c2 24)).alloc (.cells c3 24)).reads))
        have hkc := Lib.hid ((((hk0.out.alloc (.cells c1 24)).alloc (.cells c2 24)).alloc (.cells c3 24)).store (d := lostC (runC x j) t now))
        clear k0 k1 k2 k3 f0 f1 f2 f3 hk0
        generalize lostC (runC x j) t now = c at *
        go_loopw [11] (fun v ws => ∃ i : Nat, i ≤ m ∧ i ≤ 200 ∧ v = .int .i64 i ∧ Blk ws (w1.heap.size + 1) c ∧ Below w.heap.size w ws) (fun v _ => m - (intOf v).toNat)
        case atStart => exact ⟨0, by omega, by omega, by simp, hkc.out, by go_grown⟩
        case round =>
          clear hs2 hB m0 m1 m2 m3 g0 g1 g2 g3 hkc
          obtain ⟨i, hi, hi2, rfl, hk, hB3⟩ := hrel
          have hz2 := hz.below hB3
          have hs4 : w.heap.size ≤ wr.heap.size := hB3.size
          have hk1 := Lib.hid hk
          obtain ⟨⟨k0, k1, k2, k3⟩, _⟩ := hk.reads
          by_cases hlt : i < m ∧ i < 200
          · obtain ⟨hlt, h200⟩ := hlt
            obtain ⟨b, off, rfl, hbB, a0⟩ := hz2 i hlt
            clear hz2 hz hk
            by_cases hgt : c.s < z i
            · go_wp2_with fail
              go_roundw
              case rel => exact ⟨i + 1, by omega, by omega, by go_num, hk1.out, hB3⟩
              case measure => simp [intOf]; omega
            · have hle : z i ≤ c.s := by omega
              have hr : Hid (recv c.s c.f (z i) = true) := by
                show _ = _
                unfold recv; rw [hfell.out]; simpa using hle
              have q24 := neq24
              have es := ceq_self
              clear hgt
              go_wp2_with fail
              go_region_held3 (fun w' => w'.cell? ⟨w1.heap.size + 1, 0, none⟩ = some (.int .u64 c.w) ∧ w'.cell? ⟨w1.heap.size + 1, 1, none⟩ = some (.int .u64 c.l) ∧ w'.cell? ⟨w1.heap.size + 1, 2, none⟩ = some (.int .u64 c.s) ∧ w'.cell? ⟨w1.heap.size + 1, 3, none⟩ = some (.bool c.f))
                (refine ⟨cell_later ?_ k0, cell_later ?_ k1, cell_later ?_ k2, cell_later ?_ k3⟩ <;> go_grown)
                (first
                  | (go_at_call 14; refine (lost_stays c _ _ hcw hr.out _).mono ?_; rintro e w' ⟨rfl, o1, o2, o3, rfl⟩)
                  | (go_at_call 12; refine (acked_stays c _ _ hcw (word_lit (x := 1200) (by omega) (by omega)) hr.out _).mono ?_; rintro e w' ⟨rfl, o4, o5, o6, rfl⟩))
              go_wp2_with fail
              go_roundw
              case rel => exact ⟨i + 1, by omega, by omega, by go_num, hk1.out.below (by go_grown), by go_grown⟩
              case measure => simp [intOf]; omega
          · have hex3 : m ≤ i ∨ (i < m ∧ (200 : Int) ≤ (i : Int)) := by omega
            clear hlt hk hz2 hz
            rcases hex3 with hex3 | ⟨hex3, hex4⟩
            all_goals
              go_wp2_with fail
              go_ret
              exact ⟨rfl, hB3⟩
end Go.Proofs.Ytiddiiiffjibfaa

/-
  Opening in the reference, which texts are too large, and the calls whose answers are fixed: the walks.
-/
import Derived.Test.YtiedobphjjbooaaW4
namespace Go.Proofs.Ytiedobphjjbooaa
open Go.RowKit

set_option maxRecDepth 100000 in
set_option maxHeartbeats 2000000 in
theorem ropen_any (key head s : ByteArray) (h1 : key.size ≤ 1000000) (h2 : head.size ≤ 1000000) (h3 : s.size ≤ 1000000) (w : World) :
    Calls Try.prog 16 #[.string key, .string head, .string s] w fun e w' => e = .returned (.tuple #[.string (openS key head s), .int .i64 (openE key head s)]) ∧ Below w.heap.size w w' := by
  by_cases h : s.size < 8
  · have hS : Hid (openS key head s = ⟨#[]⟩) := if_pos h
    have hE : Hid (openE key head s = 5) := if_pos h
    have h' : (s.size : Int) < 8 := by omega
    go_enter Try.func16, Try.ntmps16
    go_wp2_with fail
    go_ret2
    exact ⟨by rw [hS.out, hE.out]; rfl, Below.refl _ _⟩
  · have hS' : Hid (openS key head s = if (s.extract (s.size - 8) s.size).toList == (tagB key head (s.extract 0 (s.size - 8))).toList then s.extract 0 (s.size - 8) else ⟨#[]⟩) := if_neg h
    have hE' : Hid (openE key head s = if (s.extract (s.size - 8) s.size).toList == (tagB key head (s.extract 0 (s.size - 8))).toList then 0 else 11) := if_neg h
    have g1 : (8 : Int) ≤ (s.size : Int) := by omega
    have hiff := sealed_iff key head s (s.size - 8) (by omega)
    have hsz : (s.extract 0 (s.size - 8)).size ≤ 1000000 := small_take s _ h3
    have ht : (tagB key head (s.extract 0 (s.size - 8))).size ≤ 8 := Nat.le_of_eq (tagB_size _ _ _)
    cases hq : (s.extract (s.size - 8) s.size).toList == (tagB key head (s.extract 0 (s.size - 8))).toList
    all_goals
      have hS2 := Lib.hid (hS'.out.trans (by rw [hq]))
      have hE2 := Lib.hid (hE'.out.trans (by rw [hq]))
      have hq2 := hiff.trans hq
      clear hiff hq hS' hE'
      generalize hx : s.extract 0 (s.size - 8) = x at *
      have HX := Lib.hid hx
      clear hx
      go_enter Try.func16, Try.ntmps16
      go_wp2_with fail
      rw [HX.out]
      refine (rtag_any key head x h1 h2 hsz _).mono ?_
      rintro e w1 ⟨rfl, hb1⟩
      go_wp2_with fail
      go_ret2
      exact ⟨by rw [hS2.out, hE2.out]; rfl, hb1⟩

/-- A text is too large to be looked at. -/
def big (s : ByteArray) : Bool := decide (2048 < s.size)

set_option maxRecDepth 100000 in
set_option maxHeartbeats 2000000 in
theorem large_no (b m cap : Nat) (ss : Nat → ByteArray) (w : World) (hm : m ≤ 1000) (hc : ∀ i, i < m → w.cell? ⟨b, i, none⟩ = some (.string (ss i))) (hs : ∀ i, i < m → (ss i).size ≤ 2048) :
    Calls Try.prog 9 #[.slice (some ⟨b, 0, none⟩) m cap] w fun e w' => e = .returned (.bool false) ∧ w = w' := by
  go_enter Try.func9, Try.ntmps9
  go_wp2_with fail
  go_loop [6] (fun v => ∃ k : Nat, k ≤ m ∧ v = .int .i64 k) (fun v => m - (intOf v).toNat)
  case atStart => exact ⟨0, by omega, by simp⟩
  case round =>
    obtain ⟨k, hk, rfl⟩ := hrel
    by_cases hkm : k < m
    · have c0 := hc k hkm
      have hsz := hs k hkm
      go_wp2_with fail
      go_round
      case rel => exact ⟨k + 1, by omega, by go_num⟩
      case measure => simp [intOf]; omega
    · go_wp2_with fail
      go_ret
      exact ⟨rfl, rfl⟩

set_option maxRecDepth 100000 in
set_option maxHeartbeats 2000000 in
theorem large_yes (b m cap : Nat) (ss : Nat → ByteArray) (w : World) (hm : m ≤ 1000) (hc : ∀ i, i < m → w.cell? ⟨b, i, none⟩ = some (.string (ss i))) (hs : ∃ i, i < m ∧ 2048 < (ss i).size) :
    Calls Try.prog 9 #[.slice (some ⟨b, 0, none⟩) m cap] w fun e w' => e = .returned (.bool true) ∧ w = w' := by
  obtain ⟨i0, hi0, hb0⟩ := hs
  go_enter Try.func9, Try.ntmps9
  go_wp2_with fail
  go_loop [6] (fun v => ∃ k : Nat, k ≤ i0 ∧ v = .int .i64 k) (fun v => m - (intOf v).toNat)
  case atStart => exact ⟨0, by omega, by simp⟩
  case round =>
    obtain ⟨k, hk, rfl⟩ := hrel
    have hkm : k < m := by omega
    have c0 := hc k hkm
    by_cases hsz : 2048 < (ss k).size
    · go_wp2_with fail
      go_ret
      exact ⟨rfl, rfl⟩
    · have hne : k ≠ i0 := by rintro rfl; exact hsz hb0
      have hsz' : (ss k).size ≤ 2048 := by omega
      clear hsz
      go_wp2_with fail
      go_round
      case rel => exact ⟨k + 1, by omega, by go_num⟩
      case measure => simp [intOf]; omega
end Go.Proofs.Ytiedobphjjbooaa

/-
  The laws SealBack, SealSides: the walks.
-/
import Derived.Test.YtiedobphjjbooaaL1
import Derived.Deep.QuietTactic
namespace Go.Proofs.Ytiedobphjjbooaa
open Go.RowKit

theorem open_back (key head s : ByteArray) : (openE key head s = 0 ∧ openS key head s ++ tagB key head (openS key head s) = s) ∨ ((openE key head s = 5 ∨ openE key head s = 11) ∧ openS key head s = ⟨#[]⟩) := by
  by_cases h : s.size < 8
  · right; unfold openE openS; rw [if_pos h, if_pos h]; exact ⟨Or.inl rfl, rfl⟩
  · unfold openE openS
    rw [if_neg h, if_neg h]
    by_cases hq : ((s.extract (s.size - 8) s.size).toList == (tagB key head (s.extract 0 (s.size - 8))).toList) = true
    · left
      rw [if_pos hq, if_pos hq]
      refine ⟨rfl, ?_⟩
      have := sealed_iff key head s (s.size - 8) (by omega)
      rw [hq] at this
      exact bytes_eq (beq_iff_eq.1 this)
    · right
      rw [if_neg hq, if_neg hq]
      exact ⟨Or.inr rfl, rfl⟩
theorem below_drewN {B : Nat} {a w : World} (h : Below B a w) (n : Nat) : Below B a (w.drewN n) := ⟨h.os, h.tape, h.output, h.size, h.block⟩
theorem open_small {key head s : ByteArray} (h : s.size ≤ 1000000) : (openS key head s).size ≤ 1000000 := by
  unfold openS
  split
  · exact Nat.zero_le _
  · split
    · exact small_take _ _ h
    · exact Nat.zero_le _

set_option maxRecDepth 100000 in
set_option maxHeartbeats 2000000 in
theorem back_any (key head text s : ByteArray) (w : World) :
    Calls Try.prog 5 #[.string key, .string head, .string text, .string s] w fun e w' => e = .returned (.bool true) ∧ Below w.heap.size w w' := by
  by_cases hs : key.size ≤ 2048 ∧ head.size ≤ 2048 ∧ text.size ≤ 2048 ∧ s.size ≤ 2048
  · obtain ⟨h1, h2, h3, h4⟩ := hs
    have hno := Lib.hid (four_no h1 h2 h3 h4)
    have t8 : (text ++ tagB key head text).size ≤ 1000000 := by rw [seal_size]; omega
    have hos := Lib.hid (open_seal key head text)
    have hob := open_back key head s
    have hsm : (openS key head s).size ≤ 1000000 := open_small (by omega)
    generalize ho : openS key head s = u at *
    generalize hf : openE key head s = f at *
    have HO := Lib.hid ho
    have HF := Lib.hid hf
    clear ho hf
    rcases hob with ⟨rfl, hback⟩ | ⟨hf2, rfl⟩
    · have HB := Lib.hid hback
      clear hback
      go_enter Try.func5, Try.ntmps5
      go_wp2_with fail
      refine (awake_any _).mono ?_
      rintro e w1 ⟨rfl, hb1⟩
      have z1 := hb1.size
      go_wp2_with fail
      refine (large_no _ 4 _ (four key head text s) _ (by omega) (four_at key head text s w1) hno.out).mono ?_
      rintro e w2 ⟨rfl, rfl⟩
      have hb2 : Below w.heap.size w (w1.alloc (.cells #[.string key, .string head, .string text, .string s] 9)) := hb1.alloc z1 _
      have z2 := hb2.size
      generalize w1.alloc (.cells #[.string key, .string head, .string text, .string s] 9) = w2 at *
      go_wp2_with fail
      refine (seal_any _ _ _ (by omega) (by omega) (by omega) _).mono ?_
      rintro e w3 ⟨rfl, hb3⟩
      have hB3 := next hb2 hb3 z2
      have z3 := hB3.size
      go_wp2_with fail
      refine (open_any _ _ _ (by omega) (by omega) (by omega) _).mono ?_
      rintro e w4 ⟨rfl, hb4⟩
      have hB4 := next hB3 hb4 z3
      have z4 := hB4.size
      rw [hos.out.1, hos.out.2]
      go_wp2_with fail
      refine (open_any _ _ _ (by omega) (by omega) (by omega) _).mono ?_
      rintro e w5 ⟨rfl, hb5⟩
      have hB5 := next hB4 hb5 z4
      have z5 := hB5.size
      rw [HO.out, HF.out]
      go_wp2_with fail
      refine (seal_any _ _ _ (by omega) (by omega) (by omega) _).mono ?_
      rintro e w6 ⟨rfl, hb6⟩
      have hB6 := next hB5 hb6 z5
      rw [HB.out]
      go_wp2_with fail
      go_ret
      exact ⟨rfl, hB6⟩
    · rcases hf2 with rfl | rfl
      all_goals
        go_enter Try.func5, Try.ntmps5
        go_wp2_with fail
        refine (awake_any _).mono ?_
        rintro e w1 ⟨rfl, hb1⟩
        have z1 := hb1.size
        go_wp2_with fail
        refine (large_no _ 4 _ (four key head text s) _ (by omega) (four_at key head text s w1) hno.out).mono ?_
        rintro e w2 ⟨rfl, rfl⟩
        have hb2 : Below w.heap.size w (w1.alloc (.cells #[.string key, .string head, .string text, .string s] 9)) := hb1.alloc z1 _
        have z2 := hb2.size
        generalize w1.alloc (.cells #[.string key, .string head, .string text, .string s] 9) = w2 at *
        go_wp2_with fail
        refine (seal_any _ _ _ (by omega) (by omega) (by omega) _).mono ?_
        rintro e w3 ⟨rfl, hb3⟩
        have hB3 := next hb2 hb3 z2
        have z3 := hB3.size
        go_wp2_with fail
        refine (open_any _ _ _ (by omega) (by omega) (by omega) _).mono ?_
        rintro e w4 ⟨rfl, hb4⟩
        have hB4 := next hB3 hb4 z3
        have z4 := hB4.size
        rw [hos.out.1, hos.out.2]
        go_wp2_with fail
        refine (open_any _ _ _ (by omega) (by omega) (by omega) _).mono ?_
        rintro e w5 ⟨rfl, hb5⟩
        have hB5 := next hB4 hb5 z4
        have z5 := hB5.size
        rw [HO.out, HF.out]
        go_wp2_with fail
        go_ret
        exact ⟨rfl, hB5⟩
  · have hyes := Lib.hid (four_yes hs)
    clear hs
    go_enter Try.func5, Try.ntmps5
    go_wp2_with fail
    refine (awake_any _).mono ?_
    rintro e w1 ⟨rfl, hb1⟩
    go_wp2_with fail
    refine (large_yes _ 4 _ (four key head text s) _ (by omega) (four_at key head text s w1) hyes.out).mono ?_
    rintro e w2 ⟨rfl, rfl⟩
    go_wp2_with fail
    go_ret
    exact ⟨rfl, hb1.alloc hb1.size _⟩

theorem sides_take (word a b : ByteArray) : (keyB word a b).size = 16 ∧ (keyB word a b).extract 0 8 = tagB a word b ∧ (keyB word a b).extract 8 16 = tagB b word a := by
  have s1 := tagB_size a word b
  have s2 := tagB_size b word a
  unfold keyB
  refine ⟨by rw [ByteArray.size_append, s1, s2], ByteArray.extract_append_eq_left s1.symm, ByteArray.extract_append_eq_right s1.symm (by rw [s1, s2])⟩

set_option maxRecDepth 100000 in
set_option maxHeartbeats 2000000 in
theorem sides_any (word a b : ByteArray) (w : World) :
    Calls Try.prog 7 #[.string word, .string a, .string b] w fun e w' => e = .returned (.bool true) ∧ Below w.heap.size w w' := by
  by_cases hs : word.size ≤ 2048 ∧ a.size ≤ 2048 ∧ b.size ≤ 2048
  · obtain ⟨h1, h2, h3⟩ := hs
    have hno := Lib.hid (three_no h1 h2 h3)
    have hx := Lib.hid (sides_take word a b)
    have hy := Lib.hid (sides_take word b a)
    go_enter Try.func7, Try.ntmps7
    go_wp2_with fail
    refine (awake_any _).mono ?_
    rintro e w1 ⟨rfl, hb1⟩
    have z1 := hb1.size
    go_wp2_with fail
    refine (large_no _ 3 _ (three word a b) _ (by omega) (three_at word a b w1) hno.out).mono ?_
    rintro e w2 ⟨rfl, rfl⟩
    have hb2 : Below w.heap.size w (w1.alloc (.cells #[.string word, .string a, .string b] 9)) := hb1.alloc z1 _
    have z2 := hb2.size
    generalize w1.alloc (.cells #[.string word, .string a, .string b] 9) = w2 at *
    go_wp2_with fail
    refine (key_any _ _ _ (by omega) (by omega) (by omega) _).mono ?_
    rintro e w3 ⟨rfl, hb3⟩
    have hB3 := next hb2 hb3 z2
    have z3 := hB3.size
    go_wp2_with fail
    refine (key_any _ _ _ (by omega) (by omega) (by omega) _).mono ?_
    rintro e w4 ⟨rfl, hb4⟩
    have hB4 := next hB3 hb4 z3
    generalize keyB word a b = x at *
    generalize keyB word b a = y at *
    obtain ⟨x0, x1, x2⟩ := hx.out
    obtain ⟨y0, y1, y2⟩ := hy.out
    go_wp2_with fail
    go_quiet (fail)
    go_wp2_with fail
    go_ret
    exact ⟨rfl, below_drewN hB4 _⟩
  · have hyes := Lib.hid (three_yes hs)
    clear hs
    go_enter Try.func7, Try.ntmps7
    go_wp2_with fail
    refine (awake_any _).mono ?_
    rintro e w1 ⟨rfl, hb1⟩
    go_wp2_with fail
    refine (large_yes _ 3 _ (three word a b) _ (by omega) (three_at word a b w1) hyes.out).mono ?_
    rintro e w2 ⟨rfl, rfl⟩
    go_wp2_with fail
    go_ret
    exact ⟨rfl, hb1.alloc hb1.size _⟩
end Go.Proofs.Ytiedobphjjbooaa

/-
  The laws SealTags, SealOpens, SealBack: the walks.
-/
import Derived.Test.YtiedobphjjbooaaW6
namespace Go.Proofs.Ytiedobphjjbooaa
open Go.RowKit

def three (a b c : ByteArray) : Nat → ByteArray
  | 0 => a
  | 1 => b
  | _ => c
def four (a b c d : ByteArray) : Nat → ByteArray
  | 0 => a
  | 1 => b
  | 2 => c
  | _ => d
theorem three_at (a b c : ByteArray) (wx : World) : ∀ i, i < 3 → (wx.alloc (.cells #[.string a, .string b, .string c] 9)).cell? ⟨wx.heap.size, i, none⟩ = some (.string (three a b c i)) := by
  intro i hi
  have : i = 0 ∨ i = 1 ∨ i = 2 := by omega
  rcases this with rfl | rfl | rfl <;> simp [go_sem, three]
theorem four_at (a b c d : ByteArray) (wx : World) : ∀ i, i < 4 → (wx.alloc (.cells #[.string a, .string b, .string c, .string d] 9)).cell? ⟨wx.heap.size, i, none⟩ = some (.string (four a b c d i)) := by
  intro i hi
  have : i = 0 ∨ i = 1 ∨ i = 2 ∨ i = 3 := by omega
  rcases this with rfl | rfl | rfl | rfl <;> simp [go_sem, four]
theorem three_no {a b c : ByteArray} (h1 : a.size ≤ 2048) (h2 : b.size ≤ 2048) (h3 : c.size ≤ 2048) : ∀ i, i < 3 → (three a b c i).size ≤ 2048 := by
  intro i hi
  have : i = 0 ∨ i = 1 ∨ i = 2 := by omega
  rcases this with rfl | rfl | rfl <;> assumption
theorem four_no {a b c d : ByteArray} (h1 : a.size ≤ 2048) (h2 : b.size ≤ 2048) (h3 : c.size ≤ 2048) (h4 : d.size ≤ 2048) : ∀ i, i < 4 → (four a b c d i).size ≤ 2048 := by
  intro i hi
  have : i = 0 ∨ i = 1 ∨ i = 2 ∨ i = 3 := by omega
  rcases this with rfl | rfl | rfl | rfl <;> assumption
theorem three_yes {a b c : ByteArray} (h : ¬ (a.size ≤ 2048 ∧ b.size ≤ 2048 ∧ c.size ≤ 2048)) : ∃ i, i < 3 ∧ 2048 < (three a b c i).size := by
  by_cases h1 : 2048 < a.size
  · exact ⟨0, by omega, h1⟩
  by_cases h2 : 2048 < b.size
  · exact ⟨1, by omega, h2⟩
  · exact ⟨2, by omega, by show 2048 < c.size; omega⟩
theorem four_yes {a b c d : ByteArray} (h : ¬ (a.size ≤ 2048 ∧ b.size ≤ 2048 ∧ c.size ≤ 2048 ∧ d.size ≤ 2048)) : ∃ i, i < 4 ∧ 2048 < (four a b c d i).size := by
  by_cases h1 : 2048 < a.size
  · exact ⟨0, by omega, h1⟩
  by_cases h2 : 2048 < b.size
  · exact ⟨1, by omega, h2⟩
  by_cases h3 : 2048 < c.size
  · exact ⟨2, by omega, h3⟩
  · exact ⟨3, by omega, by show 2048 < d.size; omega⟩
theorem next {B : Nat} {a w w' : World} (h : Below B a w) (hb : Below w.heap.size w w') (hB : B ≤ w.heap.size) : Below B a w' := h.trans (hb.mono hB)

set_option maxRecDepth 100000 in
set_option maxHeartbeats 2000000 in
theorem tags_any (key head text : ByteArray) (w : World) :
    Calls Try.prog 3 #[.string key, .string head, .string text] w fun e w' => e = .returned (.bool true) ∧ Below w.heap.size w w' := by
  by_cases hs : key.size ≤ 2048 ∧ head.size ≤ 2048 ∧ text.size ≤ 2048
  · obtain ⟨h1, h2, h3⟩ := hs
    have hno := Lib.hid (three_no h1 h2 h3)
    have t8 : (tagB key head text).size ≤ 8 := Nat.le_of_eq (tagB_size _ _ _)
    go_enter Try.func3, Try.ntmps3
    go_wp2_with fail
    refine (awake_any _).mono ?_
    rintro e w1 ⟨rfl, hb1⟩
    have z1 := hb1.size
    go_wp2_with fail
    refine (large_no _ 3 _ (three key head text) _ (by omega) (three_at key head text w1) hno.out).mono ?_
    rintro e w2 ⟨rfl, rfl⟩
    have hb2 : Below w.heap.size w (w1.alloc (.cells #[.string key, .string head, .string text] 9)) := hb1.alloc z1 _
    have z2 := hb2.size
    generalize w1.alloc (.cells #[.string key, .string head, .string text] 9) = w2 at *
    go_wp2_with fail
    refine (tag_any _ _ _ (by omega) (by omega) (by omega) _).mono ?_
    rintro e w3 ⟨rfl, hb3⟩
    have hB3 := next hb2 hb3 z2
    have z3 := hB3.size
    go_wp2_with fail
    refine (rtag_any _ _ _ (by omega) (by omega) (by omega) _).mono ?_
    rintro e w4 ⟨rfl, hb4⟩
    have hB4 := next hB3 hb4 z3
    have z4 := hB4.size
    go_wp2_with fail
    refine (key_any _ _ _ (by omega) (by omega) (by omega) _).mono ?_
    rintro e w5 ⟨rfl, hb5⟩
    have hB5 := next hB4 hb5 z4
    have z5 := hB5.size
    go_wp2_with fail
    refine (rkey_any _ _ _ (by omega) (by omega) (by omega) _).mono ?_
    rintro e w6 ⟨rfl, hb6⟩
    have hB6 := next hB5 hb6 z5
    have z6 := hB6.size
    go_wp2_with fail
    refine (seal_any _ _ _ (by omega) (by omega) (by omega) _).mono ?_
    rintro e w7 ⟨rfl, hb7⟩
    have hB7 := next hB6 hb7 z6
    have z7 := hB7.size
    go_wp2_with fail
    refine (rtag_any _ _ _ (by omega) (by omega) (by omega) _).mono ?_
    rintro e w8 ⟨rfl, hb8⟩
    have hB8 := next hB7 hb8 z7
    go_wp2_with fail
    go_ret
    exact ⟨rfl, hB8⟩
  · have hyes := Lib.hid (three_yes hs)
    clear hs
    go_enter Try.func3, Try.ntmps3
    go_wp2_with fail
    refine (awake_any _).mono ?_
    rintro e w1 ⟨rfl, hb1⟩
    go_wp2_with fail
    refine (large_yes _ 3 _ (three key head text) _ (by omega) (three_at key head text w1) hyes.out).mono ?_
    rintro e w2 ⟨rfl, rfl⟩
    go_wp2_with fail
    go_ret
    exact ⟨rfl, hb1.alloc hb1.size _⟩

set_option maxRecDepth 100000 in
set_option maxHeartbeats 2000000 in
theorem opens_any (key head s : ByteArray) (w : World) :
    Calls Try.prog 4 #[.string key, .string head, .string s] w fun e w' => e = .returned (.bool true) ∧ Below w.heap.size w w' := by
  by_cases hs : key.size ≤ 2048 ∧ head.size ≤ 2048 ∧ s.size ≤ 2048
  · obtain ⟨h1, h2, h3⟩ := hs
    have hno := Lib.hid (three_no h1 h2 h3)
    go_enter Try.func4, Try.ntmps4
    go_wp2_with fail
    refine (awake_any _).mono ?_
    rintro e w1 ⟨rfl, hb1⟩
    have z1 := hb1.size
    go_wp2_with fail
    refine (large_no _ 3 _ (three key head s) _ (by omega) (three_at key head s w1) hno.out).mono ?_
    rintro e w2 ⟨rfl, rfl⟩
    have hb2 : Below w.heap.size w (w1.alloc (.cells #[.string key, .string head, .string s] 9)) := hb1.alloc z1 _
    have z2 := hb2.size
    generalize w1.alloc (.cells #[.string key, .string head, .string s] 9) = w2 at *
    go_wp2_with fail
    refine (open_any _ _ _ (by omega) (by omega) (by omega) _).mono ?_
    rintro e w3 ⟨rfl, hb3⟩
    have hB3 := next hb2 hb3 z2
    have z3 := hB3.size
    go_wp2_with fail
    refine (ropen_any _ _ _ (by omega) (by omega) (by omega) _).mono ?_
    rintro e w4 ⟨rfl, hb4⟩
    have hB4 := next hB3 hb4 z3
    go_wp2_with fail
    go_ret
    exact ⟨rfl, hB4⟩
  · have hyes := Lib.hid (three_yes hs)
    clear hs
    go_enter Try.func4, Try.ntmps4
    go_wp2_with fail
    refine (awake_any _).mono ?_
    rintro e w1 ⟨rfl, hb1⟩
    go_wp2_with fail
    refine (large_yes _ 3 _ (three key head s) _ (by omega) (three_at key head s w1) hyes.out).mono ?_
    rintro e w2 ⟨rfl, rfl⟩
    go_wp2_with fail
    go_ret
    exact ⟨rfl, hb1.alloc hb1.size _⟩
end Go.Proofs.Ytiedobphjjbooaa

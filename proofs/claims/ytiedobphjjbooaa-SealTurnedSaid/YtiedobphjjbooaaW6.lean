/-
  The calls whose answers are fixed: the walk.
-/
import Derived.Test.YtiedobphjjbooaaW5
namespace Go.Proofs.Ytiedobphjjbooaa
open Go.RowKit

theorem seal_size (key head text : ByteArray) : (text ++ tagB key head text).size = text.size + 8 := by
  rw [ByteArray.size_append, tagB_size]
theorem seal_take (key head text : ByteArray) : (text ++ tagB key head text).extract 0 text.size = text := ByteArray.extract_append_eq_left rfl
theorem seal_drop (key head text : ByteArray) : (text ++ tagB key head text).extract text.size (text ++ tagB key head text).size = tagB key head text :=
  ByteArray.extract_append_eq_right rfl ByteArray.size_append
theorem open_seal (key head text : ByteArray) : openS key head (text ++ tagB key head text) = text ∧ openE key head (text ++ tagB key head text) = 0 := by
  have e8 : (text ++ tagB key head text).size - 8 = text.size := by rw [seal_size]; omega
  have hlt : ¬ (text ++ tagB key head text).size < 8 := by rw [seal_size]; omega
  unfold openS openE
  rw [if_neg hlt, if_neg hlt, e8, seal_take, seal_drop]
  simp

theorem awake_any (w : World) :
    Calls Try.prog 8 #[] w fun e w' => e = .returned (.bool true) ∧ Below w.heap.size w w' := by
  have hsz := seal_size ⟨#[107]⟩ ⟨#[104]⟩ ⟨#[116, 101, 120, 116]⟩
  have htk := seal_take ⟨#[107]⟩ ⟨#[104]⟩ ⟨#[116, 101, 120, 116]⟩
  obtain ⟨ho1, ho2⟩ := open_seal ⟨#[107]⟩ ⟨#[104]⟩ ⟨#[116, 101, 120, 116]⟩
  have hsz' : Hid (((⟨#[116, 101, 120, 116]⟩ : ByteArray) ++ tagB ⟨#[107]⟩ ⟨#[104]⟩ ⟨#[116, 101, 120, 116]⟩).size = 12) := hsz
  have htk' : Hid (((⟨#[116, 101, 120, 116]⟩ : ByteArray) ++ tagB ⟨#[107]⟩ ⟨#[104]⟩ ⟨#[116, 101, 120, 116]⟩).extract 0 4 = ⟨#[116, 101, 120, 116]⟩) := htk
  have Ho1 := Lib.hid ho1
  have Ho2 := Lib.hid ho2
  clear hsz htk ho1 ho2
  go_enter Try.func8, Try.ntmps8
  go_wp2_with fail
  refine (seal_any _ _ _ (by decide) (by decide) (by decide) _).mono ?_
  rintro e w1 ⟨rfl, hb1⟩
  generalize ((⟨#[116, 101, 120, 116]⟩ : ByteArray) ++ tagB ⟨#[107]⟩ ⟨#[104]⟩ ⟨#[116, 101, 120, 116]⟩) = s at *
  have z1 : s.size ≤ 12 := Nat.le_of_eq hsz'.out
  go_wp2_with fail
  refine (open_any _ _ _ (by decide) (by decide) (by omega) _).mono ?_
  rintro e w2 ⟨rfl, hb2⟩
  rw [Ho1.out, Ho2.out]
  go_wp2_with fail
  refine (open_short _ _ _ (by decide) _).mono ?_
  rintro e w3 ⟨rfl, hb3⟩
  have zz : s.size = 12 := hsz'.out
  have z4 : s.extract 0 4 = ⟨#[116, 101, 120, 116]⟩ := htk'.out
  go_wp2_with fail
  refine (tag_any _ _ _ (by decide) (by decide) (by decide) _).mono ?_
  rintro e w4 ⟨rfl, hb4⟩
  have t8 := tagB_size ⟨#[]⟩ ⟨#[]⟩ ⟨#[]⟩
  go_wp2_with fail
  refine (key_any _ _ _ (by decide) (by decide) (by decide) _).mono ?_
  rintro e w5 ⟨rfl, hb5⟩
  have k16 : (keyB ⟨#[119]⟩ ⟨#[97]⟩ ⟨#[98]⟩).size = 16 := by unfold keyB; rw [ByteArray.size_append, tagB_size, tagB_size]
  go_wp2_with fail
  go_ret
  exact ⟨rfl, hb1.trans ((hb2.mono hb1.size).trans ((hb3.mono (Nat.le_trans hb1.size hb2.size)).trans ((hb4.mono (Nat.le_trans hb1.size (Nat.le_trans hb2.size hb3.size))).trans (hb5.mono (Nat.le_trans hb1.size (Nat.le_trans hb2.size (Nat.le_trans hb3.size hb4.size)))))))⟩
end Go.Proofs.Ytiedobphjjbooaa

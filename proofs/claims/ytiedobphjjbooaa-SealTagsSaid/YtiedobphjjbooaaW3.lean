/-
  Tags, in the program and in its reference: the walks.
-/
import Derived.Test.YtiedobphjjbooaaW2
namespace Go.Proofs.Ytiedobphjjbooaa
open Go.RowKit

/-- All bytes are mixed, one by one. -/
def hashL (l : List UInt8) : Int := l.foldl stepH 14695981039346656037
/-- What is mixed for a tag. -/
def allB (key head text : ByteArray) : ByteArray := key ++ be8 head.size ++ head ++ text ++ key
def tagB (key head text : ByteArray) : ByteArray := be8 (hashL (allB key head text).data.toList)
theorem tagB_size (key head text : ByteArray) : (tagB key head text).size = 8 := be8_size _

theorem stepH_bd (h : Int) (c : UInt8) : 0 ≤ stepH h c ∧ stepH h c < 18446744073709551616 := by
  unfold stepH
  simp only [IntKind.wrap_u64]
  omega
theorem fold_bd (l : List UInt8) : ∀ h : Int, 0 ≤ h → h < 18446744073709551616 → 0 ≤ l.foldl stepH h ∧ l.foldl stepH h < 18446744073709551616 := by
  induction l with
  | nil => intro h h0 h1; exact ⟨h0, h1⟩
  | cons c l ih => intro h _ _; exact ih _ (stepH_bd h c).1 (stepH_bd h c).2
theorem hashL_bd (l : List UInt8) : 0 ≤ hashL l ∧ hashL l < 18446744073709551616 := fold_bd l _ (by omega) (by omega)

/-- The five strings of a tag. -/
def five (key head text : ByteArray) : Nat → ByteArray
  | 0 => key
  | 1 => be8 head.size
  | 2 => head
  | 3 => text
  | _ => key
theorem mix_five (key head text : ByteArray) : mixS (five key head text) 5 = hashL (allB key head text).data.toList := by
  have e : (allB key head text).data.toList = key.data.toList ++ (be8 head.size).data.toList ++ head.data.toList ++ text.data.toList ++ key.data.toList := by
    unfold allB; simp
  rw [e]
  unfold hashL
  simp only [List.foldl_append]
  rfl

set_option maxRecDepth 100000 in
set_option maxHeartbeats 2000000 in
theorem tag_any (key head text : ByteArray) (h1 : key.size ≤ 1000000) (h2 : head.size ≤ 1000000) (h3 : text.size ≤ 1000000) (w : World) :
    Calls Try.prog 10 #[.string key, .string head, .string text] w fun e w' => e = .returned (.string (tagB key head text)) ∧ Below w.heap.size w w' := by
  have hm := Lib.hid (mix_five key head text)
  have hbd := hashL_bd (allB key head text).data.toList
  have h88 := be8_size head.size
  have hx : ∀ wx : World, ∀ i, i < 5 → (wx.alloc (.cells #[.string key, .string (be8 head.size), .string head, .string text, .string key] 9)).cell? ⟨wx.heap.size, i, none⟩ = some (.string (five key head text i)) := by
    intro wx i hi
    have : i = 0 ∨ i = 1 ∨ i = 2 ∨ i = 3 ∨ i = 4 := by omega
    rcases this with rfl | rfl | rfl | rfl | rfl <;> simp [go_sem, five]
  have hy : ∀ i, i < 5 → (five key head text i).size ≤ 9223372036854775807 := by
    intro i hi
    have : i = 0 ∨ i = 1 ∨ i = 2 ∨ i = 3 ∨ i = 4 := by omega
    rcases this with rfl | rfl | rfl | rfl | rfl <;> simp only [five] <;> omega
  have hX := Lib.hid hx
  have hY := Lib.hid hy
  have H8 := Lib.hid h88
  clear hx hy h88
  go_enter Try.func10, Try.ntmps10
  go_wp2_with fail
  refine (wide_any _ (by omega) (by omega) _).mono ?_
  rintro e w1 ⟨rfl, hb1⟩
  go_wp2_with fail
  refine (mix_any _ 5 _ (five key head text) _ (by omega) (by simp) (hX.out w1) hY.out).mono ?_
  rintro e w2 ⟨rfl, hb2⟩
  rw [hm.out]
  go_wp2_with fail
  refine (wide_any _ hbd.1 hbd.2 _).mono ?_
  rintro e w3 ⟨rfl, hb3⟩
  go_wp2_with fail
  go_ret
  exact ⟨rfl, hb1.trans ((((Below.refl _ w1).alloc (hb1.size) _).trans (hb2.mono (by have := hb1.size; simp; omega))).trans (hb3.mono (by have := hb1.size; have := hb2.size; simp at this; omega)))⟩

set_option maxRecDepth 100000 in
set_option maxHeartbeats 2000000 in
theorem rtag_any (key head text : ByteArray) (h1 : key.size ≤ 1000000) (h2 : head.size ≤ 1000000) (h3 : text.size ≤ 1000000) (w : World) :
    Calls Try.prog 11 #[.string key, .string head, .string text] w fun e w' => e = .returned (.string (tagB key head text)) ∧ Below w.heap.size w w' := by
  have hbd := hashL_bd (allB key head text).data.toList
  have hsz : Hid ((allB key head text).size = key.size + 8 + head.size + text.size + key.size) := by
    show _ = _
    unfold allB; simp [be8_size]
  have h8 : (be8 (head.size : Int)).size ≤ 8 := Nat.le_of_eq (be8_size _)
  go_enter Try.func11, Try.ntmps11
  go_wp2_with fail
  refine (bytes_any _ (by omega) (by omega) _).mono ?_
  rintro e w1 ⟨rfl, hb1⟩
  go_wp2_with fail
  have hall := Lib.hid (show key ++ be8 head.size ++ head ++ text ++ key = allB key head text from rfl)
  rw [hall.out]
  have hsz2 : (allB key head text).size ≤ 5000000 := by rw [hsz.out]; omega
  generalize hA : allB key head text = A at *
  have HA := Lib.hid hA
  clear hA hall
  go_loop [8, 9] (fun h v => ∃ i : Nat, i ≤ A.size ∧ v = .int .i64 i ∧ h = .int .u64 ((A.data.toList.take i).foldl stepH 14695981039346656037)) (fun _ v => A.size - (intOf v).toNat)
  case atStart => exact ⟨0, by omega, by simp, by simp⟩
  case round =>
    obtain ⟨i, hi, rfl, rfl⟩ := hrel
    by_cases hil : i < A.size
    · have hst := Lib.hid (take_step A.data.toList i (by simpa using hil) 14695981039346656037)
      go_wp2_with fail
      go_round
      case rel => exact ⟨i + 1, by omega, by go_num, by rw [hst.out]; exact u64_eq (step_slot _ _ _ _)⟩
      case measure => simp [intOf]; omega
    · have hfull : Hid ((A.data.toList.take i).foldl stepH 14695981039346656037 = hashL A.data.toList) := by
        show _ = _
        obtain rfl : i = A.size := by omega
        rw [List.take_of_length_le (by simp)]
        rfl
      rw [hfull.out]
      clear hfull
      go_wp2_with fail
      refine (bytes_any _ hbd.1 hbd.2 _).mono ?_
      rintro e w3 ⟨rfl, hb3⟩
      go_wp2_with fail
      go_ret
      exact ⟨ret_str (by rw [← HA.out]; rfl), hb1.trans (hb3.mono hb1.size)⟩
end Go.Proofs.Ytiedobphjjbooaa

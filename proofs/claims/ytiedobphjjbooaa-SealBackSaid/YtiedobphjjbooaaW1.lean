/-
  A number's eight bytes, in the program and in its reference: the walks.
-/
import Derived.Test.YtiedobphjjbooaaRows
import Derived.WalkKit
import Derived.WalkSpells
import Derived.WalkLawsBesides
import Derived.Handy
import Derived.Lib.Hide
import Derived.BigQuiet
import Derived.Laws.BytesArg
namespace Go.Proofs.Ytiedobphjjbooaa
open Go.RowKit

theorem conv8 (W : World) (v0 v1 v2 v3 v4 v5 v6 v7 : Int) :
    (convert 30 9 (.slice (some ⟨W.heap.size, 0, none⟩) 8 8)).run Try.prog (W.alloc (.cells #[.int .u8 v0, .int .u8 v1, .int .u8 v2, .int .u8 v3, .int .u8 v4, .int .u8 v5, .int .u8 v6, .int .u8 v7] 36)) =
      .ok (.string (strOfNums [v0, v1, v2, v3, v4, v5, v6, v7])) (W.alloc (.cells #[.int .u8 v0, .int .u8 v1, .int .u8 v2, .int .u8 v3, .int .u8 v4, .int .u8 v5, .int .u8 v6, .int .u8 v7] 36)) := by
  refine run_convert_bytes_arg _ 30 5 Try.underlying30 Try.underlying5 W.heap.size 0 8 8 [v0, v1, v2, v3, v4, v5, v6, v7] rfl (fun i hi => ?_) 9 Try.underlying9
  have : i = 0 ∨ i = 1 ∨ i = 2 ∨ i = 3 ∨ i = 4 ∨ i = 5 ∨ i = 6 ∨ i = 7 := by omega
  rcases this with rfl | rfl | rfl | rfl | rfl | rfl | rfl | rfl <;> simp [go_sem]
theorem conv1 (W : World) (v0 : Int) :
    (convert 30 9 (.slice (some ⟨W.heap.size, 0, none⟩) 1 1)).run Try.prog (W.alloc (.cells #[.int .u8 v0] 5)) = .ok (.string (strOfNums [v0])) (W.alloc (.cells #[.int .u8 v0] 5)) := by
  refine run_convert_bytes_arg _ 30 5 Try.underlying30 Try.underlying5 W.heap.size 0 1 1 [v0] rfl (fun i hi => ?_) 9 Try.underlying9
  obtain rfl : i = 0 := by omega
  simp [go_sem]

theorem conv1' (W : World) (b : Nat) (v0 : Int) (hb : b = W.heap.size) :
    (convert 30 9 (.slice (some ⟨b, 0, none⟩) 1 1)).run Try.prog (W.alloc (.cells #[.int .u8 v0] 5)) = .ok (.string (strOfNums [v0])) (W.alloc (.cells #[.int .u8 v0] 5)) := by
  subst hb; exact conv1 W v0
theorem ret_str {a b : ByteArray} (h : a = b) : Ending.returned (.string a) = Ending.returned (.string b) := by rw [h]
theorem nums_append (xs ys : List Int) : strOfNums xs ++ strOfNums ys = strOfNums (xs ++ ys) := by
  apply ByteArray.ext
  simp [strOfNums]

/-- The eight bytes of a number, from the high end. -/
def be8 (n : Int) : ByteArray := strOfNums [n / 256 / 256 / 256 / 256 / 256 / 256 / 256 % 256, n / 256 / 256 / 256 / 256 / 256 / 256 % 256, n / 256 / 256 / 256 / 256 / 256 % 256, n / 256 / 256 / 256 / 256 % 256, n / 256 / 256 / 256 % 256, n / 256 / 256 % 256, n / 256 % 256, n % 256]
theorem be8_size (n : Int) : (be8 n).size = 8 := by unfold be8; rw [strOfNums_size]; rfl

set_option maxRecDepth 100000 in
set_option maxHeartbeats 4000000 in
theorem wide_any (n : Int) (h0 : 0 ≤ n) (h1 : n < 18446744073709551616) (w : World) :
    Calls Try.prog 17 #[.int .u64 n] w fun e w' => e = .returned (.string (be8 n)) ∧ Below w.heap.size w w' := by
  have hb : Hid (be8 n = strOfNums [n / 256 / 256 / 256 / 256 / 256 / 256 / 256, n / 256 / 256 / 256 / 256 / 256 / 256 % 256, n / 256 / 256 / 256 / 256 / 256 % 256, n / 256 / 256 / 256 / 256 % 256, n / 256 / 256 / 256 % 256, n / 256 / 256 % 256, n / 256 % 256, n % 256]) := by
    show _ = _
    unfold be8
    rw [show n / 256 / 256 / 256 / 256 / 256 / 256 / 256 % 256 = n / 256 / 256 / 256 / 256 / 256 / 256 / 256 from by omega]
  have c8 := conv8
  go_enter Try.func17, Try.ntmps17
  go_wp2
  go_rounds 9
  go_ret
  exact ⟨ret_str hb.out.symm, by go_grown⟩

set_option maxRecDepth 100000 in
set_option maxHeartbeats 4000000 in
theorem bytes_any (n : Int) (h0 : 0 ≤ n) (h1 : n < 18446744073709551616) (w : World) :
    Calls Try.prog 19 #[.int .u64 n] w fun e w' => e = .returned (.string (be8 n)) ∧ Below w.heap.size w w' := by
  have c1 := conv1'
  have hb : Hid (be8 n = strOfNums [n / 256 / 256 / 256 / 256 / 256 / 256 / 256 % 256] ++ (strOfNums [n / 256 / 256 / 256 / 256 / 256 / 256 % 256] ++ (strOfNums [n / 256 / 256 / 256 / 256 / 256 % 256] ++ (strOfNums [n / 256 / 256 / 256 / 256 % 256] ++
      (strOfNums [n / 256 / 256 / 256 % 256] ++ (strOfNums [n / 256 / 256 % 256] ++ (strOfNums [n / 256 % 256] ++ (strOfNums [n % 256] ++ { data := #[] })))))))) := by
    show _ = _
    rw [show ({ data := #[] } : ByteArray) = strOfNums [] from rfl]
    simp only [nums_append]
    rfl
  go_enter Try.func19, Try.ntmps19
  go_wp2
  go_rounds 9
  go_ret
  exact ⟨ret_str hb.out.symm, by go_grown⟩
end Go.Proofs.Ytiedobphjjbooaa

/-
  Mixing texts, one behind the other: the walk.
-/
import Derived.Test.YtiedobphjjbooaaW1
import Derived.Lib.ConvBytes
namespace Go.Proofs.Ytiedobphjjbooaa
open Go.RowKit

/-- One byte is mixed in. -/
def stepH (h : Int) (c : UInt8) : Int := IntKind.u64.wrap (bits BinOp.xor IntKind.u64 h (c.toNat : Int) * 1099511628211)
/-- The first k strings are mixed. -/
def mixS (ss : Nat → ByteArray) : Nat → Int
  | 0 => 14695981039346656037
  | k + 1 => (ss k).data.toList.foldl stepH (mixS ss k)

theorem take_step (l : List UInt8) (i : Nat) (h : i < l.length) (h0 : Int) : (l.take (i + 1)).foldl stepH h0 = stepH ((l.take i).foldl stepH h0) (l.getD i 0) := by
  rw [List.take_succ_eq_append_getElem h, List.foldl_append]
  simp [List.getD, List.getElem?_eq_getElem h]

theorem step_slot (s : ByteArray) (i : Nat) (hi : i < s.data.size) (h : Int) :
    IntKind.u64.wrap (bits BinOp.xor IntKind.u64 h (IntKind.u64.wrap ((s.data[i]).toNat : Int)) * 1099511628211) = stepH h (s.data.toList.getD i 0) := by
  have e : s.data.toList.getD i 0 = s.data[i] := by
    rw [List.getD, List.getElem?_eq_getElem (by simpa using hi)]; simp
  have hb := (s.data[i]).toNat_lt
  unfold stepH
  rw [e, IntWalk.u64_in ((s.data[i]).toNat : Int) ⟨by omega, by omega⟩]
theorem u64_eq {a b : Int} (h : a = b) : Value.int .u64 a = Value.int .u64 b := by rw [h]

theorem below_bytes {B : Nat} {a w : World} (h : Below B a w) (hB : B ≤ w.heap.size) (e : TypeId) (s : ByteArray) : Below B a (Lib.bytesWorld w e s) := by
  have e0 : (Lib.bytesWorld w e s).os = w.os ∧ (Lib.bytesWorld w e s).output = w.output := by
    unfold Lib.bytesWorld World.freeze
    split <;> exact ⟨rfl, rfl⟩
  refine ⟨?_, ?_, ?_, ?_, fun j hj => (Lib.bytesWorld_at_old w e s j (by omega)).trans (h.block j hj)⟩
  · exact e0.1.trans h.os
  · have e1 : (Lib.bytesWorld w e s).tape = w.tape := by
      unfold Lib.bytesWorld World.freeze
      split <;> rfl
    exact e1.trans h.tape
  · exact e0.2.trans h.output
  · rw [Lib.bytesWorld_size]; have := h.size; omega

set_option maxRecDepth 100000 in
set_option maxHeartbeats 2000000 in
theorem mix_any (b m cap : Nat) (ss : Nat → ByteArray) (w : World) (hm : m ≤ 1000) (hlt : b < w.heap.size) (hc : ∀ i, i < m → w.cell? ⟨b, i, none⟩ = some (.string (ss i))) (hs : ∀ i, i < m → (ss i).size ≤ 9223372036854775807) :
    Calls Try.prog 18 #[.slice (some ⟨b, 0, none⟩) m cap] w fun e w' => e = .returned (.int .u64 (mixS ss m)) ∧ Below w.heap.size w w' := by
  have hconv := fun W s => Lib.run_convert_string_bytes (P := Try.prog) W 9 30 5 s Try.underlying9 Try.underlying30 Try.underlying5
  go_enter Try.func18, Try.ntmps18
  go_wp2
  go_loopw [3, 10] (fun h v wr => ∃ k : Nat, k ≤ m ∧ v = .int .i64 k ∧ h = .int .u64 (mixS ss k) ∧ Below w.heap.size w wr) (fun _ v _ => m - (intOf v).toNat)
  case atStart => exact ⟨0, by omega, by simp, rfl, Below.refl _ _⟩
  case round =>
    obtain ⟨k, hk, rfl, rfl, hB⟩ := hrel
    by_cases hkm : k < m
    · have c0 := (hB.cell (p := ⟨b, k, none⟩) hlt).trans (hc k hkm)
      have hsz := hs k hkm
      have hs2 := hB.size
      have hmix := Lib.hid (show mixS ss (k + 1) = (ss k).data.toList.foldl stepH (mixS ss k) from rfl)
      have hB2 : Below w.heap.size w (Lib.bytesWorld wr 5 (ss k)) := below_bytes hB hs2 5 (ss k)
      have hcc := fun i hi => Lib.bytesWorld_cell wr 5 (ss k) i hi
      have hHcc := Lib.hid hcc
      clear hcc
      go_wp2
      go_loop [3, 17] (fun h v => ∃ i : Nat, i ≤ (ss k).size ∧ v = .int .i64 i ∧ h = .int .u64 (((ss k).data.toList.take i).foldl stepH (mixS ss k))) (fun _ v => (ss k).size - (intOf v).toNat)
      case atStart => exact ⟨0, by omega, by simp, by simp⟩
      case round =>
        obtain ⟨i, hi, rfl, rfl⟩ := hrel
        by_cases hil : i < (ss k).size
        · have hci := hHcc.out i hil
          have hst := Lib.hid (take_step (ss k).data.toList i (by simpa using hil) (mixS ss k))
          go_wp2
          go_round
          case rel => exact ⟨i + 1, by omega, by go_num, by rw [hst.out]; exact u64_eq (step_slot _ _ _ _)⟩
          case measure => simp [intOf]; omega
        · go_wp2
          go_roundw
          case rel =>
            obtain rfl : i = (ss k).size := by omega
            exact ⟨k + 1, by omega, by go_num, by rw [hmix.out, List.take_of_length_le (by simp)], hB2⟩
          case measure => simp [intOf]; omega
    · go_wp2
      go_ret
      obtain rfl : k = m := by omega
      exact ⟨rfl, hB⟩
end Go.Proofs.Ytiedobphjjbooaa

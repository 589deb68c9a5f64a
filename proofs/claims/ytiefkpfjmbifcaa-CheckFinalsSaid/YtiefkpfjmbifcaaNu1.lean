/-
  A varint is taken off: the walk.
-/
import Derived.Test.YtiefkpfjmbifcaaW12
import Derived.Lib.ConvBytes
namespace Go.Proofs.Ytiefkpfjmbifcaa
open Go.RowKit Go.Maps
def topF (t : ByteArray) : Nat := (t.data.toList.getD 0 0).toNat
def szF (t : ByteArray) : Nat := 2 ^ (topF t / 64)
theorem top_lt (t : ByteArray) : topF t < 256 := by unfold topF; exact UInt8.toNat_lt _
theorem sz_is (t : ByteArray) : 1 ≤ szF t ∧ szF t ≤ 8 ∧ wrap64 (2 ^ (topF t / 64)) = szF t := by
  have h := top_lt t
  unfold szF
  rcases (show topF t / 64 = 0 ∨ topF t / 64 = 1 ∨ topF t / 64 = 2 ∨ topF t / 64 = 3 from by omega) with e | e | e | e <;> rw [e] <;> exact ⟨by decide, by decide, by kernel_rfl⟩
def foldN (t : ByteArray) : Nat → Int
  | 0 => (topF t : Int) % 64
  | j + 1 => bits BinOp.or IntKind.u64 (IntKind.u64.wrap (foldN t j * 256)) (IntKind.u64.wrap ((t.data[j + 1]?.getD 0).toNat : Nat))
def badN (t : ByteArray) : Bool := t.size == 0 || decide (t.size < szF t)
def nF (t : ByteArray) : Int := if badN t = true then 0 else foldN t (szF t - 1)
def restF (t : ByteArray) : ByteArray := if badN t = true then ⟨#[]⟩ else t.extract (szF t) t.size
theorem rest_le (t : ByteArray) : (restF t).size ≤ t.size := by
  unfold restF
  split
  · exact Nat.zero_le _
  · simp
theorem rest_lt (t : ByteArray) (h : badN t = false) : (restF t).size < t.size := by
  unfold restF
  rw [if_neg (by rw [h]; simp)]
  have := sz_is t
  unfold badN at h
  simp at h
  simp
  omega
theorem toList_ne (t : ByteArray) (h : 0 < t.size) : t.toList.isEmpty = false := by
  rw [ByteArray.toList_eq]
  cases h2 : t.data.toList with
  | nil =>
    have : t.data.size = 0 := by rw [← Array.length_toList, h2]; rfl
    exact absurd h (by show ¬ 0 < t.data.size; omega)
  | cons a l => rfl
theorem top_is (t : ByteArray) (h : 0 < t.size) : (t[0]'h).toNat = topF t := by
  have h' : 0 < t.data.size := h
  show (t.data[0]).toNat = _
  unfold topF
  simp only [List.getD_eq_getElem?_getD, Array.getElem?_toList]
  rw [Array.getElem?_eq_getElem h']
  rfl
theorem bytes_below (w : World) (e : TypeId) (s : ByteArray) : Below w.heap.size w (Lib.bytesWorld w e s) :=
  ⟨rfl, rfl, rfl, by rw [Lib.bytesWorld_size]; omega, fun k hk => Lib.bytesWorld_at_old w e s k hk⟩
def NPost (t : ByteArray) (w : World) (r : Ending) (w' : World) : Prop := r = .returned (.tuple #[.int .u64 (nF t), .string (restF t), .bool (!badN t)]) ∧ Below w.heap.size w w'
set_option maxRecDepth 100000 in
set_option maxHeartbeats 4000000 in
theorem number_any (t : ByteArray) (ht : t.size ≤ 9223372036854775807) (w : World) : Calls Try.prog 29 #[.string t] w (NPost t w) := by
  have hconv := fun W s => Lib.run_convert_string_bytes (P := Try.prog) W 9 75 5 s Try.underlying9 Try.underlying75 Try.underlying5
  by_cases h0 : 0 < t.size
  · have hl0 := toList_ne t h0
    have hl1 : ¬ t.toList = [] := by intro e; rw [e] at hl0; cases hl0
    obtain ⟨z1, z8, hz⟩ := sz_is t
    have hb0 := top_is t h0
    have hb1 := top_lt t
    have hN : Hid (nF t = if badN t = true then 0 else foldN t (szF t - 1)) := rfl
    have hR : Hid (restF t = if badN t = true then ⟨#[]⟩ else t.extract (szF t) t.size) := rfl
    have hbd : Hid (badN t = decide (t.size < szF t)) := by
      show _ = _
      unfold badN
      rw [show (t.size == 0) = false from beq_eq_false_iff_ne.2 (by omega)]
      rfl
    have hf0 : Hid (foldN t 0 = (topF t : Int) % 64) := rfl
    generalize topF t = b0 at *
    generalize szF t = z at *
    by_cases hlt : t.size < z
    · have hz2 : (t.size : Int) < z := by omega
      have e1 : badN t = true := by rw [hbd.out]; exact decide_eq_true hlt
      have e2 := Lib.hid (hN.out.trans (if_pos e1))
      have e3 := Lib.hid (hR.out.trans (if_pos e1))
      have e4 := Lib.hid e1
      clear e1
      go_enter Try.func29, Try.ntmps29
      go_wp2_with fail
      go_ret3
      exact ⟨by rw [e2.out, e3.out, e4.out]; rfl, Below.refl _ w⟩
    · have hz2 : ¬ (t.size : Int) < z := by omega
      have e1 : badN t = false := by rw [hbd.out]; exact decide_eq_false hlt
      have e2 := Lib.hid (hN.out.trans (if_neg (by rw [e1]; simp)))
      have e3 := Lib.hid (hR.out.trans (if_neg (by rw [e1]; simp)))
      have e4 := Lib.hid e1
      clear e1
      have hlen : (t.extract 1 z).size = z - 1 := by simp; omega
      go_enter Try.func29, Try.ntmps29
      go_wp2_with fail
      go_loopw [5, 33] (fun u v wr => ∃ (j : Nat), j ≤ z - 1 ∧ v = .int .i64 j ∧ u = .int .u64 (foldN t j) ∧ wr = Lib.bytesWorld w 5 (t.extract 1 z)) (fun _ v _ => z - (intOf v).toNat)
      case atStart => exact ⟨0, by omega, by simp, by rw [hf0.out], rfl⟩
      case round =>
        obtain ⟨j, hj, rfl, rfl, rfl⟩ := hrel
        by_cases hjz : j < z - 1
        · have hcell := Lib.bytesWorld_cell w 5 (t.extract 1 z) j (by omega)
          have hs : Hid (foldN t (j + 1) = bits BinOp.or IntKind.u64 (IntKind.u64.wrap (foldN t j * 256)) (IntKind.u64.wrap ((t.data[j + 1]?.getD 0).toNat : Nat))) := rfl
          generalize foldN t j = y at *
          go_wp2_with fail
          go_roundw
          case rel => exact ⟨j + 1, by omega, by go_num, by rw [hs.out], trivial⟩
          case measure => simp [intOf]; omega
        · have hje : j = z - 1 := by omega
          have e5 : foldN t j = nF t := by rw [e2.out, hje]
          rw [e5]
          clear e5 hje
          go_wp2_with fail
          go_region
          all_goals
            (try go_wp2_with fail)
            go_ret3
            exact ⟨by rw [e3.out, e4.out]; rfl, (bytes_below w 5 _).drew⟩
  · have hl : t.toList = [] := by
      rw [ByteArray.toList_eq]
      have h1 : t.data.size = 0 := by show t.size = 0; omega
      have h2 : t.data.toList.length = 0 := by rw [Array.length_toList]; exact h1
      exact List.eq_nil_of_length_eq_zero h2
    have e1 : badN t = true := by
      unfold badN
      rw [show (t.size == 0) = true from beq_iff_eq.2 (by omega)]
      rfl
    have e2 : Hid (nF t = 0) := if_pos e1
    have e3 : Hid (restF t = ⟨#[]⟩) := if_pos e1
    have e4 := Lib.hid e1
    clear e1 hconv
    go_enter Try.func29, Try.ntmps29
    go_wp2_with fail
    go_ret3
    exact ⟨by rw [e2.out, e3.out, e4.out]; rfl, Below.refl _ w⟩
end Go.Proofs.Ytiefkpfjmbifcaa

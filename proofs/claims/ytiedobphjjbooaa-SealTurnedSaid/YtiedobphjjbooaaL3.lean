/-
  The law SealTurned: the walk.
-/
import Derived.Test.YtiedobphjjbooaaL2
import Derived.Laws.BitsAllLaws
import Derived.Laws.IdiomStrings
namespace Go.Proofs.Ytiedobphjjbooaa
open Go.RowKit

/-- A byte of a text is another one. -/
def turnB (s : ByteArray) (i : Nat) (u : UInt8) : ByteArray := ⟨(s.data.toList.set i (s.data.toList.getD i 0 ^^^ u)).toArray⟩

theorem turnB_size (s : ByteArray) (i : Nat) (u : UInt8) : (turnB s i u).size = s.size := by
  show (s.data.toList.set i (s.data.toList.getD i 0 ^^^ u)).toArray.size = s.data.size
  rw [List.size_toArray, List.length_set, Array.length_toList]
theorem xor_ne (c u : UInt8) (h : u ≠ 0) : c ^^^ u ≠ c := by
  intro e
  apply h
  have e2 : c ^^^ (c ^^^ u) = c ^^^ c := by rw [e]
  rwa [← UInt8.xor_assoc, UInt8.xor_self, UInt8.zero_xor] at e2

/-- With a byte of its tag turned nothing is opened. -/
theorem open_turned (key head text : ByteArray) (k : Nat) (hk : k < 8) (u : UInt8) (hu : u ≠ 0) :
    openS key head (turnB (text ++ tagB key head text) (text.size + k) u) = ⟨#[]⟩ ∧ openE key head (turnB (text ++ tagB key head text) (text.size + k) u) = 11 := by
  have hS := seal_size key head text
  have htk := seal_take key head text
  have hdr := seal_drop key head text
  generalize hs : text ++ tagB key head text = s at *
  have hl : s.data.toList.length = text.size + 8 := by rw [Array.length_toList]; exact hS
  have hz : (turnB s (text.size + k) u).size = text.size + 8 := by rw [turnB_size, hS]
  have htake : (turnB s (text.size + k) u).extract 0 text.size = text := by
    refine Eq.trans ?_ htk
    apply ByteArray.ext
    apply Array.toList_inj.1
    simp only [turnB, ByteArray.data_extract, Array.toList_extract, List.extract_eq_take_drop, List.drop_zero, Nat.sub_zero]
    rw [List.take_set_of_le (by omega)]
  have hne : ((turnB s (text.size + k) u).extract text.size (text.size + 8)).toList ≠ (tagB key head text).toList := by
    intro e
    rw [← hdr, hS] at e
    have e2 := bytes_eq e
    have e3 : ((turnB s (text.size + k) u).extract text.size (text.size + 8)).data.toList[k]? = (s.extract text.size (text.size + 8)).data.toList[k]? := by rw [e2]
    simp only [turnB, ByteArray.data_extract, Array.toList_extract, List.extract_eq_take_drop] at e3
    rw [List.getElem?_take_of_lt (by omega), List.getElem?_take_of_lt (by omega), List.getElem?_drop, List.getElem?_drop, List.getElem?_set_self (by omega), List.getElem?_eq_getElem (by omega)] at e3
    have e4 := Option.some.inj e3
    have e5 : s.data.toList.getD (text.size + k) 0 = s.data.toList[text.size + k]'(by omega) := by
      rw [List.getD, List.getElem?_eq_getElem (by omega)]; rfl
    rw [e5] at e4
    exact xor_ne _ u hu e4
  have hlt : ¬ (turnB s (text.size + k) u).size < 8 := by rw [hz]; omega
  unfold openS openE
  rw [if_neg hlt, if_neg hlt, hz, show text.size + 8 - 8 = text.size from by omega, htake, if_neg (by rw [beq_iff_eq]; exact hne), if_neg (by rw [beq_iff_eq]; exact hne)]
  exact ⟨rfl, rfl⟩

/-- A new row of a text's bytes, of which one is written: what is read out of it. -/
theorem frozen_bytes (W : World) (s : ByteArray) (i : Nat) (hi : i < s.size) : (Lib.bytesWorld W 5 s).frozen? ⟨W.heap.size, i, none⟩ = false := by
  have h := Lib.bytesWorld_at_new W 5 s
  have hz : s.size ≤ (Lib.bytesCells W 5 s).size := by
    unfold Lib.bytesCells
    rw [Array.size_append, Array.size_map]
    exact Nat.le_add_right _ _
  unfold World.frozen?
  simp only [h]
  have : ¬ (Lib.bytesCells W 5 s).size ≤ i := by omega
  simp [this]
theorem xor_u8 (c : UInt8) (t : Int) (ht0 : 0 ≤ t) (ht1 : t < 256) : bits BinOp.xor IntKind.u8 (c.toNat : Int) t = ((c ^^^ UInt8.ofNat t.toNat).toNat : Int) := by
  have hc := c.toNat_lt
  rw [u8_xor _ _ (by omega) (by omega) ht0 ht1, UInt8.toNat_xor, UInt8.toNat_ofNat', Int.toNat_natCast, Nat.mod_eq_of_lt (by omega)]
theorem back_turned (W : World) (s : ByteArray) (i : Nat) (_hi : i < s.size) (c u : UInt8) (hc : s.data.toList.getD i 0 = c) (V : Int) (hV : V = ((c ^^^ u).toNat : Int)) (cap : Nat) :
    (convert 30 9 (.slice (some ⟨W.heap.size, 0, none⟩) s.size cap)).run Try.prog ((Lib.bytesWorld W 5 s).setCell ⟨W.heap.size, i, none⟩ (.int .u8 V)) =
      .ok (.string (turnB s i u)) ((Lib.bytesWorld W 5 s).setCell ⟨W.heap.size, i, none⟩ (.int .u8 V)) := by
  subst hV
  have hl : (s.data.toList.set i (c ^^^ u)).length = s.size := by rw [List.length_set, Array.length_toList]; rfl
  have h := run_convert_bytes_back (P := Try.prog) ((Lib.bytesWorld W 5 s).setCell ⟨W.heap.size, i, none⟩ (.int .u8 ((c ^^^ u).toNat : Int))) 30 9 5 ⟨W.heap.size, 0, none⟩ cap (s.data.toList.set i (c ^^^ u)) Try.underlying30 Try.underlying5 Try.underlying9 (by
    intro j hj
    have hj' : j < s.size := by omega
    have ha : (⟨W.heap.size, 0, none⟩ : Addr).add j = ⟨W.heap.size, j, none⟩ := by
      unfold Addr.add; split
      · rename_i h; subst h; rfl
      · simp
    rw [ha]
    have old := Lib.bytesWorld_cell W 5 s j hj'
    by_cases hij : i = j
    · subst hij
      rw [List.getElem_set_self]
      exact World.cell?_setCell_same _ _ _ old
    · rw [List.getElem_set_ne hij, World.cell?_setCell_other _ _ _ _ (by simp), old]
      rw [List.getD, List.getElem?_eq_getElem (by rw [Array.length_toList]; exact hj')]
      rfl)
  rw [hl] at h
  rw [h]
  unfold turnB
  rw [hc]

set_option maxRecDepth 100000 in
set_option maxHeartbeats 2000000 in
theorem turned_any (key head text : ByteArray) (k t : Int) (hk0 : 0 ≤ k) (hk1 : k < 256) (ht0 : 0 ≤ t) (ht1 : t < 256) (w : World) :
    Calls Try.prog 6 #[.string key, .string head, .string text, .int .u8 k, .int .u8 t] w fun e w' => e = .returned (.bool true) ∧ Below w.heap.size w w' := by
  by_cases hs : key.size ≤ 2048 ∧ head.size ≤ 2048 ∧ text.size ≤ 2048
  · obtain ⟨h1, h2, h3⟩ := hs
    have hno := Lib.hid (three_no h1 h2 h3)
    have hconv := fun W s => Lib.run_convert_string_bytes (P := Try.prog) W 9 30 5 s Try.underlying9 Try.underlying30 Try.underlying5
    by_cases hz : t = 0
    · subst hz
      go_enter Try.func6, Try.ntmps6
      go_wp2_with fail
      refine (awake_any _).mono ?_
      rintro e w1 ⟨rfl, hb1⟩
      have z1 := hb1.size
      go_wp2_with fail
      refine (large_no _ 3 _ (three key head text) _ (by omega) (three_at key head text w1) hno.out).mono ?_
      rintro e w2 ⟨rfl, rfl⟩
      go_wp2_with fail
      go_ret
      exact ⟨rfl, hb1.alloc z1 _⟩
    · have hzb : (t == 0) = false := by simpa using hz
      have hss := Lib.hid (seal_size key head text)
      have hss1 : (text ++ tagB key head text).size ≤ 3000 := by rw [seal_size]; omega
      have hss2 : text.size + 8 ≤ (text ++ tagB key head text).size := by rw [seal_size]; omega
      obtain ⟨m, hm⟩ : ∃ m : Nat, k % 8 = (m : Int) := ⟨(k % 8).toNat, by omega⟩
      have hm8 : m < 8 := by omega
      have hu : UInt8.ofNat t.toNat ≠ 0 := by
        intro e
        have : (UInt8.ofNat t.toNat).toNat = (0 : UInt8).toNat := by rw [e]
        rw [UInt8.toNat_ofNat', Nat.mod_eq_of_lt (by omega)] at this
        have h0 : (0 : UInt8).toNat = 0 := rfl
        omega
      obtain ⟨hoS, hoE⟩ := open_turned key head text m hm8 (UInt8.ofNat t.toNat) hu
      have HoS := Lib.hid hoS
      have HoE := Lib.hid hoE
      clear hz hoS hoE
      go_enter Try.func6, Try.ntmps6
      go_wp2_with fail
      refine (awake_any _).mono ?_
      rintro e w1 ⟨rfl, hb1⟩
      have z1 := hb1.size
      go_wp2_with fail
      refine (large_no _ 3 _ (three key head text) _ (by omega) (three_at key head text w1) hno.out).mono ?_
      rintro e w2 ⟨rfl, rfl⟩
      have hb2 : Below w.heap.size w (w1.alloc (.cells #[.string key, .string head, .string text] 9)) := hb1.alloc z1 _
      have z2 := hb2.size
      generalize w1.alloc (.cells #[.string key, .string head, .string text] 9) = w2 at *
      go_wp2_with fail
      refine (seal_any _ _ _ (by omega) (by omega) (by omega) _).mono ?_
      rintro e w3 ⟨rfl, hb3⟩
      have hB3 := next hb2 hb3 z2
      have z3 := hB3.size
      generalize text ++ tagB key head text = s at *
      have c0 := Lib.bytesWorld_cell w3 5 s (text.size + m) (by omega)
      have f0 := frozen_bytes w3 s (text.size + m) (by omega)
      have hB4 := below_bytes hB3 z3 5 s
      obtain ⟨c, hc⟩ : ∃ c, s.data.toList.getD (text.size + m) 0 = c := ⟨_, rfl⟩
      rw [hc] at c0
      have hback := back_turned w3 s (text.size + m) (by omega) c (UInt8.ofNat t.toNat) hc (bits BinOp.xor IntKind.u8 (c.toNat : Int) t) (xor_u8 c t ht0 ht1)
      have hts := turnB_size s (text.size + m) (UInt8.ofNat t.toNat)
      have hts1 : (turnB s (text.size + m) (UInt8.ofNat t.toNat)).size ≤ 1000000 := by omega
      clear hts
      have HC := Lib.hid hc
      clear hc
      go_upto_region 6 with fail
      generalize Lib.bytesWorld w3 5 s = w4 at *
      clear hconv
      go_wp2_with fail
      refine (open_any _ _ _ (by omega) (by omega) hts1 _).mono ?_
      rintro e w5 ⟨rfl, hb5⟩
      rw [HoS.out, HoE.out]
      go_wp2_with fail
      go_ret
      exact ⟨rfl, (hB4.setCell (p := ⟨w3.heap.size, text.size + m, none⟩) z3 _).trans (hb5.mono (by simpa using hB4.size))⟩
  · have hyes := Lib.hid (three_yes hs)
    clear hs
    go_enter Try.func6, Try.ntmps6
    go_wp2_with fail
    refine (awake_any _).mono ?_
    rintro e w1 ⟨rfl, hb1⟩
    go_wp2_with fail
    refine (large_yes _ 3 _ (three key head text) _ (by omega) (three_at key head text w1) hyes.out).mono ?_
    rintro e w2 ⟨rfl, rfl⟩
    go_wp2_with fail
    go_ret
    exact ⟨rfl, hb1.alloc hb1.size _⟩
end Go.Proofs.Ytiedobphjjbooaa

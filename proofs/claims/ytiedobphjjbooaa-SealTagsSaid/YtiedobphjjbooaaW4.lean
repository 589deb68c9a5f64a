/-
  Keys, sealing and opening, in the program and in its reference: the walks.
-/
import Derived.Test.YtiedobphjjbooaaW3
import Derived.Deep.RegionWith
import Derived.Deep.DeepCutAuto
namespace Go.Proofs.Ytiedobphjjbooaa
open Go.RowKit

def keyB (word a b : ByteArray) : ByteArray := tagB a word b ++ tagB b word a

set_option maxRecDepth 100000 in
set_option maxHeartbeats 2000000 in
theorem key_any (word a b : ByteArray) (h1 : word.size ≤ 1000000) (h2 : a.size ≤ 1000000) (h3 : b.size ≤ 1000000) (w : World) :
    Calls Try.prog 12 #[.string word, .string a, .string b] w fun e w' => e = .returned (.string (keyB word a b)) ∧ Below w.heap.size w w' := by
  have s1 : (tagB a word b).size ≤ 8 := Nat.le_of_eq (tagB_size _ _ _)
  have s2 : (tagB b word a).size ≤ 8 := Nat.le_of_eq (tagB_size _ _ _)
  go_enter Try.func12, Try.ntmps12
  go_wp2_with fail
  refine (tag_any a word b h2 h1 h3 _).mono ?_
  rintro e w1 ⟨rfl, hb1⟩
  go_wp2_with fail
  refine (tag_any b word a h3 h1 h2 _).mono ?_
  rintro e w2 ⟨rfl, hb2⟩
  go_wp2_with fail
  go_ret
  exact ⟨rfl, hb1.trans (hb2.mono hb1.size)⟩

set_option maxRecDepth 100000 in
set_option maxHeartbeats 2000000 in
theorem rkey_any (word a b : ByteArray) (h1 : word.size ≤ 1000000) (h2 : a.size ≤ 1000000) (h3 : b.size ≤ 1000000) (w : World) :
    Calls Try.prog 13 #[.string word, .string a, .string b] w fun e w' => e = .returned (.string (keyB word a b)) ∧ Below w.heap.size w w' := by
  have s1 : (tagB a word b).size ≤ 8 := Nat.le_of_eq (tagB_size _ _ _)
  have s2 : (tagB b word a).size ≤ 8 := Nat.le_of_eq (tagB_size _ _ _)
  go_enter Try.func13, Try.ntmps13
  go_wp2_with fail
  refine (rtag_any a word b h2 h1 h3 _).mono ?_
  rintro e w1 ⟨rfl, hb1⟩
  go_wp2_with fail
  refine (rtag_any b word a h3 h1 h2 _).mono ?_
  rintro e w2 ⟨rfl, hb2⟩
  go_wp2_with fail
  go_ret
  exact ⟨rfl, hb1.trans (hb2.mono hb1.size)⟩

set_option maxRecDepth 100000 in
set_option maxHeartbeats 2000000 in
theorem seal_any (key head text : ByteArray) (h1 : key.size ≤ 1000000) (h2 : head.size ≤ 1000000) (h3 : text.size ≤ 1000000) (w : World) :
    Calls Try.prog 14 #[.string key, .string head, .string text] w fun e w' => e = .returned (.string (text ++ tagB key head text)) ∧ Below w.heap.size w w' := by
  have s1 : (tagB key head text).size ≤ 8 := Nat.le_of_eq (tagB_size _ _ _)
  go_enter Try.func14, Try.ntmps14
  go_wp2_with fail
  refine (tag_any key head text h1 h2 h3 _).mono ?_
  rintro e w1 ⟨rfl, hb1⟩
  go_wp2_with fail
  go_ret
  exact ⟨rfl, hb1⟩

theorem below_drew {w w' : World} (hp : Below w.drew.heap.size w.drew w') : Below w.heap.size w w' := Below.trans (Below.refl _ w).drew (Below.mono hp (Nat.le_refl _))
theorem small_take (s : ByteArray) (n : Nat) (h : s.size ≤ 1000000) : (s.extract 0 n).size ≤ 1000000 := by
  rw [ByteArray.size_extract]; omega

set_option maxRecDepth 100000 in
set_option maxHeartbeats 2000000 in
theorem open_short (key head s : ByteArray) (h : s.size < 8) (w : World) :
    Calls Try.prog 15 #[.string key, .string head, .string s] w fun e w' => e = .returned (.tuple #[.string ⟨#[]⟩, .int .i64 5]) ∧ Below w.heap.size w w' := by
  have h' : (s.size : Int) < 8 := by omega
  go_enter Try.func15, Try.ntmps15
  go_wp2_with fail
  go_ret2
  exact ⟨rfl, Below.refl _ _⟩

/-- What is opened, and with which number. -/
def openS (key head s : ByteArray) : ByteArray :=
  if s.size < 8 then ⟨#[]⟩ else if (s.extract (s.size - 8) s.size).toList == (tagB key head (s.extract 0 (s.size - 8))).toList then s.extract 0 (s.size - 8) else ⟨#[]⟩
def openE (key head s : ByteArray) : Int :=
  if s.size < 8 then 5 else if (s.extract (s.size - 8) s.size).toList == (tagB key head (s.extract 0 (s.size - 8))).toList then 0 else 11

set_option maxRecDepth 100000 in
set_option maxHeartbeats 2000000 in
theorem open_long (key head s : ByteArray) (h1 : key.size ≤ 1000000) (h2 : head.size ≤ 1000000) (h3 : s.size ≤ 1000000) (h : 8 ≤ s.size) (w : World) :
    Calls Try.prog 15 #[.string key, .string head, .string s] w fun e w' => e = .returned (.tuple #[.string (openS key head s), .int .i64 (openE key head s)]) ∧ Below w.heap.size w w' := by
  obtain ⟨n, hn⟩ : ∃ n : Nat, s.size - 8 = n := ⟨_, rfl⟩
  have hn0 : ((s.size : Int) - 8) = (n : Int) := by omega
  have hS : openS key head s = if (s.extract n s.size).toList == (tagB key head (s.extract 0 n)).toList then s.extract 0 n else ⟨#[]⟩ := by unfold openS; rw [if_neg (by omega), hn]
  have hE : openE key head s = if (s.extract n s.size).toList == (tagB key head (s.extract 0 n)).toList then 0 else 11 := by unfold openE; rw [if_neg (by omega), hn]
  have hS' := Lib.hid hS
  have hE' := Lib.hid hE
  have hn' := Lib.hid hn0
  have hle : n ≤ s.size := by omega
  clear hS hE hn hn0
  have g1 : (s.size : Int) - 8 ≥ 0 := by omega
  cases hq : (s.extract n s.size).toList == (tagB key head (s.extract 0 n)).toList
  all_goals
    have hS2 := Lib.hid (hS'.out.trans (by rw [hq]))
    have hE2 := Lib.hid (hE'.out.trans (by rw [hq]))
    go_enter Try.func15, Try.ntmps15
    go_upto_region 4 with fail
    rw [hn'.out]
    go_region_with (go_at_call 10; refine (tag_any _ _ _ h1 h2 (small_take _ _ h3) _).mono ?_; rintro e w' ⟨rfl, hp⟩)
    go_wp2_with fail
    go_ret2
    exact ⟨by rw [hS2.out, hE2.out]; rfl, below_drew hp⟩
theorem open_any (key head s : ByteArray) (h1 : key.size ≤ 1000000) (h2 : head.size ≤ 1000000) (h3 : s.size ≤ 1000000) (w : World) :
    Calls Try.prog 15 #[.string key, .string head, .string s] w fun e w' => e = .returned (.tuple #[.string (openS key head s), .int .i64 (openE key head s)]) ∧ Below w.heap.size w w' := by
  by_cases h : s.size < 8
  · refine (open_short key head s h w).mono fun e w' ⟨he, hw⟩ => ⟨?_, hw⟩
    rw [he, openS, openE, if_pos h, if_pos h]
  · exact open_long key head s h1 h2 h3 (by omega) w

theorem bytes_eq {a b : ByteArray} (h : a.toList = b.toList) : a = b := by
  rw [ByteArray.toList_eq, ByteArray.toList_eq] at h
  apply ByteArray.ext
  exact Array.toList_inj.1 h
theorem cut_eq (s : ByteArray) (n : Nat) (h : n ≤ s.size) : s.extract 0 n ++ s.extract n s.size = s := by
  rw [ByteArray.extract_append_extract]
  simp [h]
theorem sealed_iff (key head s : ByteArray) (n : Nat) (hn : n ≤ s.size) :
    ((s.extract 0 n ++ tagB key head (s.extract 0 n)).toList == s.toList) = ((s.extract n s.size).toList == (tagB key head (s.extract 0 n)).toList) := by
  rw [Bool.eq_iff_iff, beq_iff_eq, beq_iff_eq]
  constructor
  · intro h
    have e := bytes_eq h
    have c := cut_eq s n hn
    have e2 := (ByteArray.append_right_inj (s.extract 0 n)).1 (e.trans c.symm)
    rw [e2]
  · intro h
    have e := bytes_eq h
    rw [← e, cut_eq s n hn]
end Go.Proofs.Ytiedobphjjbooaa

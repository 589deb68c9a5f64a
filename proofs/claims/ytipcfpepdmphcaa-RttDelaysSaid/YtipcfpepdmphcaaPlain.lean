/-
  The numbers of the estimates as plain functions over Int. No program in sight.
-/
namespace Go.Proofs.Ytipcfpepdmphcaa

structure Est where
  la : Int
  le : Int
  sm : Int
  va : Int
  kn : Bool

def mn (x y : Int) : Int := if y < x then y else x
def mx (x y : Int) : Int := if x < y then y else x
def Word (x : Int) : Prop := 0 ≤ x ∧ x < 18446744073709551616
def Est.Ok (e : Est) : Prop := Word e.la ∧ Word e.le ∧ Word e.sm ∧ Word e.va
/-- No number is too great. -/
def Est.Low (e : Est) : Prop := e.la ≤ 1099511627776 ∧ e.le ≤ 1099511627776 ∧ e.sm ≤ 1099511627776 ∧ e.va ≤ 1099511627776
instance (e : Est) : Decidable e.Low := by unfold Est.Low; infer_instance
def capE (e : Est) : Est := ⟨mn e.la 1099511627776, mn e.le 1099511627776, mn e.sm 1099511627776, mn e.va 1099511627776, e.kn⟩
def eqE (a b c d : Int) (f : Bool) (a' b' c' d' : Int) (f' : Bool) : Bool := a == a' && (b == b' && (c == c' && (d == d' && f == f')))

/-- The time that counts. -/
def ownT (le t d : Int) : Int := if d ≤ t ∧ le ≤ t - d then t - d else t
def sampleE (e : Est) (t d : Int) : Est :=
  if 1099511627776 < t ∨ ¬ e.Low then e
  else if e.kn = false then ⟨t, t, t, t / 2, true⟩
  else ⟨t, mn e.le t, (7 * e.sm + ownT (mn e.le t) t d) / 8, (3 * e.va + (mx e.sm (ownT (mn e.le t) t d) - mn e.sm (ownT (mn e.le t) t d))) / 4, true⟩
def firstE : Est := ⟨0, 0, 333, 166, false⟩
def two : Nat → Int
  | 0 => 1
  | k + 1 => two k * 2
def probeE (e : Est) (m : Int) (k : Nat) : Int := (mn e.sm 1099511627776 + mx (4 * mn e.va 1099511627776) 1 + mn m 1099511627776) * two k
/-- How often it is doubled. -/
def timesN (t : Int) : Nat := if t < 0 then 0 else if 10 < t then 10 else t.toNat
def waitE (e : Est) : Int := mx (9 * mx (mn e.la 1099511627776) (mn e.sm 1099511627776) / 8) 1

theorem eqE_self (a b c d : Int) (f : Bool) : eqE a b c d f a b c d f = true := by simp [eqE]
theorem capE_low {e : Est} (h : e.Low) : capE e = e := by
  obtain ⟨h1, h2, h3, h4⟩ := h
  cases e
  simp only [capE, mn] at *
  rw [if_neg (by omega), if_neg (by omega), if_neg (by omega), if_neg (by omega)]
theorem capE_high {e : Est} (h : ¬ e.Low) : eqE (capE e).la (capE e).le (capE e).sm (capE e).va (capE e).kn e.la e.le e.sm e.va e.kn = false := by
  rw [Bool.eq_false_iff]
  intro he
  apply h
  unfold eqE capE mn at he
  simp only [Bool.and_eq_true, beq_iff_eq] at he
  obtain ⟨h1, h2, h3, h4, -⟩ := he
  refine ⟨?_, ?_, ?_, ?_⟩
  · split at h1 <;> omega
  · split at h2 <;> omega
  · split at h3 <;> omega
  · split at h4 <;> omega
theorem ownT_bd {le t d : Int} (ht : 0 ≤ t) (hd : 0 ≤ d) (_hl : 0 ≤ le) : 0 ≤ ownT le t d ∧ ownT le t d ≤ t := by
  unfold ownT; split <;> omega
theorem sample_low {e : Est} (hk : e.Ok) (hl : e.Low) {t d : Int} (ht0 : 0 ≤ t) (ht : t ≤ 1099511627776) (hd : 0 ≤ d) : (sampleE e t d).Ok ∧ (sampleE e t d).Low ∧ (sampleE e t d).kn = true ∧ (sampleE e t d).la = t := by
  obtain ⟨⟨a0, a1⟩, ⟨b0, b1⟩, ⟨c0, c1⟩, d0, d1⟩ := hk
  have hl' := hl
  obtain ⟨l0, l1, l2, l3⟩ := hl
  unfold sampleE
  rw [if_neg (by intro h; rcases h with h | h; omega; exact h hl')]
  split
  · refine ⟨⟨?_, ?_, ?_, ?_⟩, ⟨?_, ?_, ?_, ?_⟩, rfl, rfl⟩ <;> simp only [Word] <;> omega
  · have hm : 0 ≤ mn e.le t ∧ mn e.le t ≤ t := by unfold mn; split <;> omega
    have ho := ownT_bd (le := mn e.le t) ht0 hd hm.1
    generalize ownT (mn e.le t) t d = o at *
    have hx : 0 ≤ mx e.sm o - mn e.sm o ∧ mx e.sm o - mn e.sm o ≤ 1099511627776 := by unfold mx mn; split <;> split <;> omega
    generalize mx e.sm o - mn e.sm o = x at *
    refine ⟨⟨?_, ?_, ?_, ?_⟩, ⟨?_, ?_, ?_, ?_⟩, rfl, rfl⟩ <;> simp only [Word] <;> omega
theorem sample_ok {e : Est} (hk : e.Ok) {t d : Int} (ht0 : 0 ≤ t) (hd : 0 ≤ d) : (sampleE e t d).Ok := by
  by_cases h : 1099511627776 < t ∨ ¬ e.Low
  · unfold sampleE; rw [if_pos h]; exact hk
  · have hl : e.Low := Decidable.byContradiction fun hn => h (Or.inr hn)
    exact (sample_low hk hl ht0 (Int.not_lt.1 fun hn => h (Or.inl hn)) hd).1
end Go.Proofs.Ytipcfpepdmphcaa

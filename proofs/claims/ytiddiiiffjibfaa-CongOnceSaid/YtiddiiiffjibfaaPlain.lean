/-
  The numbers of the congestion control as plain functions over Int: what a control becomes. No program in sight.
-/
namespace Go.Proofs.Ytiddiiiffjibfaa

structure Ctl where
  w : Int
  l : Int
  s : Int
  f : Bool

theorem Ctl.ext' {c d : Ctl} (h1 : c.w = d.w) (h2 : c.l = d.l) (h3 : c.s = d.s) (h4 : c.f = d.f) : c = d := by
  cases c; cases d; simp at *; exact ⟨h1, h2, h3, h4⟩

def mn (x y : Int) : Int := if y < x then y else x
def mx (x y : Int) : Int := if x < y then y else x
def recv (s : Int) (f : Bool) (t : Int) : Bool := f && decide (t ≤ s)
def ceq (a l s : Int) (f : Bool) (a' l' s' : Int) (f' : Bool) : Bool := a == a' && (l == l' && (s == s' && f == f'))
theorem ceq_self (a l s : Int) (f : Bool) : ceq a l s f a l s f = true := by simp [ceq]
theorem ceq_of {a l s : Int} {f : Bool} {a' l' s' : Int} {f' : Bool} (h1 : a = a') (h2 : l = l') (h3 : s = s') (h4 : f = f') : ceq a l s f a' l' s' f' = true := by
  subst h1 h2 h3 h4; exact ceq_self _ _ _ _

/-- The window once a packet was acknowledged. -/
def ackW (c : Ctl) (n t : Int) : Int :=
  if recv c.s c.f t = true ∨ 1099511627776 < n then c.w
  else if c.w < c.l then mn (mn c.w 1099511627776 + n) 1099511627776
  else if c.w = 0 then 1200
  else mn (mn c.w 1099511627776 + 1200 * n / c.w) 1099511627776
def ackC (c : Ctl) (n t : Int) : Ctl := ⟨ackW c n t, c.l, c.s, c.f⟩
def lostC (c : Ctl) (t now : Int) : Ctl := if recv c.s c.f t = true then c else ⟨mx (c.w / 2) 2400, mx (c.w / 2) 2400, now, true⟩
def stuckC (c : Ctl) : Ctl := ⟨2400, c.l, 0, false⟩
def firstC : Ctl := ⟨12000, 1099511627776, 0, false⟩
def roomC (c : Ctl) (x : Int) : Int := c.w - mn c.w x

def Word (x : Int) : Prop := 0 ≤ x ∧ x < 18446744073709551616
def Ctl.Ok (c : Ctl) : Prop := Word c.w ∧ Word c.l ∧ Word c.s

theorem quo_bd (n a : Int) (h1 : 0 ≤ n) (h2 : n ≤ 1099511627776) (h3 : 0 < a) : 0 ≤ 1200 * n / a ∧ 1200 * n / a ≤ 1319413953331200 := by
  have e0 : 0 ≤ 1200 * n / a := Int.ediv_nonneg (by omega) (by omega)
  have e1 : 1200 * n / a ≤ 1200 * n := Int.ediv_le_self _ (by omega)
  omega

theorem ackC_ok {c : Ctl} (h : c.Ok) {n t : Int} (hn : Word n) : (ackC c n t).Ok := by
  obtain ⟨⟨h1, h2⟩, h3, h4⟩ := h
  obtain ⟨n1, n2⟩ := hn
  refine ⟨?_, h3, h4⟩
  show Word (ackW c n t)
  unfold ackW Word
  split
  · omega
  · rename_i h0
    have hn' : n ≤ 1099511627776 := by
      rcases Int.lt_or_le 1099511627776 n with h | h
      · exact absurd (Or.inr h) h0
      · exact h
    split
    · unfold mn; split <;> split <;> omega
    · split
      · omega
      · have := quo_bd n c.w n1 hn' (by omega)
        unfold mn; split <;> split <;> omega
theorem lostC_ok {c : Ctl} (h : c.Ok) {t now : Int} (hn : Word now) : (lostC c t now).Ok := by
  unfold lostC
  split
  · exact h
  · obtain ⟨⟨h1, h2⟩, _, _⟩ := h
    have : Word (mx (c.w / 2) 2400) := by unfold Word mx; split <;> omega
    exact ⟨this, this, hn⟩
theorem word_lit {x : Int} (h1 : 0 ≤ x) (h2 : x < 18446744073709551616) : Word x := ⟨h1, h2⟩
theorem stuckC_ok {c : Ctl} (h : c.Ok) : (stuckC c).Ok := ⟨word_lit (x := 2400) (by omega) (by omega), h.2.1, word_lit (x := 0) (by omega) (by omega)⟩
theorem firstC_ok : firstC.Ok := ⟨word_lit (x := 12000) (by omega) (by omega), word_lit (x := 1099511627776) (by omega) (by omega), word_lit (x := 0) (by omega) (by omega)⟩

end Go.Proofs.Ytiddiiiffjibfaa

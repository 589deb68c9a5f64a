/-
  Plain facts on controls: what holds after any number of deeds. No program in sight.
-/
import Derived.Test.YtiddiiiffjibfaaPlain
namespace Go.Proofs.Ytiddiiiffjibfaa

/-- The control after j rounds of CongSlow. -/
def slowC (w : Int) : Nat → Ctl
  | 0 => ⟨w, w, 0, false⟩
  | j + 1 => ackC (slowC w j) 1200 0

theorem div_anti {a b c : Int} (ha : 0 ≤ a) (hb : 0 < b) (h : b ≤ c) : a / c ≤ a / b := by
  refine (Int.le_ediv_iff_mul_le hb).2 ?_
  have e1 : c * (a / c) ≤ a := Int.mul_ediv_self_le (by omega)
  have e0 : 0 ≤ a / c := Int.ediv_nonneg ha (by omega)
  have e2 : a / c * b ≤ a / c * c := Int.mul_le_mul_of_nonneg_left h e0
  rw [Int.mul_comm (a / c) c] at e2
  omega

theorem slow_inv (q : Int) (h0 : 2400 ≤ q) (h1 : q < 1050976) (j : Nat) (hj : 1200 * (j : Int) ≤ q) :
    (slowC q j).l = q ∧ (slowC q j).s = 0 ∧ (slowC q j).f = false ∧ q ≤ (slowC q j).w ∧ (slowC q j).w ≤ q + j * (1440000 / q) ∧ (slowC q j).w ≤ q + 1200 := by
  have hm : (j : Int) * (1440000 / q) ≤ 1200 := by
    have e1 : q * (1440000 / q) ≤ 1440000 := Int.mul_ediv_self_le (by omega)
    have e0 : 0 ≤ 1440000 / q := Int.ediv_nonneg (by omega) (by omega)
    have e2 : 1200 * (j : Int) * (1440000 / q) ≤ q * (1440000 / q) := Int.mul_le_mul_of_nonneg_right hj e0
    have e3 : 1200 * (j : Int) * (1440000 / q) = 1200 * ((j : Int) * (1440000 / q)) := Int.mul_assoc _ _ _
    omega
  have key : (slowC q j).l = q ∧ (slowC q j).s = 0 ∧ (slowC q j).f = false ∧ q ≤ (slowC q j).w ∧ (slowC q j).w ≤ q + j * (1440000 / q) := by
    clear hm
    induction j with
    | zero => exact ⟨rfl, rfl, rfl, Int.le_refl _, by simp [slowC]⟩
    | succ j ih =>
      obtain ⟨i1, i2, i3, i4, i5⟩ := ih (by omega)
      have hjm : (j : Int) * (1440000 / q) ≤ 1200 := by
        have e1 : q * (1440000 / q) ≤ 1440000 := Int.mul_ediv_self_le (by omega)
        have e0 : 0 ≤ 1440000 / q := Int.ediv_nonneg (by omega) (by omega)
        have e2 : 1200 * (j : Int) * (1440000 / q) ≤ q * (1440000 / q) := Int.mul_le_mul_of_nonneg_right (by omega) e0
        have e3 : 1200 * (j : Int) * (1440000 / q) = 1200 * ((j : Int) * (1440000 / q)) := Int.mul_assoc _ _ _
        omega
      have hd0 : 0 ≤ 1440000 / (slowC q j).w := Int.ediv_nonneg (by omega) (by omega)
      have hd1 : 1440000 / (slowC q j).w ≤ 1440000 / q := div_anti (by omega) (by omega) i4
      have hd2 : 1440000 / q ≤ 600 := by
        have := div_anti (a := 1440000) (by omega) (b := 2400) (by omega) h0
        omega
      have e : ackW (slowC q j) 1200 0 = (slowC q j).w + 1440000 / (slowC q j).w := by
        unfold ackW
        rw [if_neg (by rw [i3]; simp [recv]), if_neg (by rw [i1]; omega), if_neg (by omega)]
        rw [show (1200 * 1200 : Int) = 1440000 from rfl]
        unfold mn
        rw [if_neg (c := 1099511627776 < (slowC q j).w) (by omega), if_neg (by omega)]
      have ew : (slowC q (j + 1)).w = (slowC q j).w + 1440000 / (slowC q j).w := e
      refine ⟨i1, i2, i3, by omega, ?_⟩
      have : ((j + 1 : Nat) : Int) * (1440000 / q) = (j : Int) * (1440000 / q) + 1440000 / q := by
        rw [Int.natCast_add, Int.add_mul]; simp
      omega
  obtain ⟨k1, k2, k3, k4, k5⟩ := key
  exact ⟨k1, k2, k3, k4, k5, by omega⟩
structure Deed where
  k : Int
  n : Int
  t : Int
  now : Int
def Deed.Ok (x : Deed) : Prop := Word x.n ∧ Word x.t ∧ Word x.now
def playC (c : Ctl) (x : Deed) : Ctl :=
  if x.k = 0 then ackC c x.n x.t else if x.k = 1 then lostC c x.t x.now else if x.k = 2 then stuckC c else c
theorem playC_ok {c : Ctl} (h : c.Ok) {x : Deed} (hx : x.Ok) : (playC c x).Ok := by
  unfold playC
  split
  · exact ackC_ok h hx.1
  · split
    · exact lostC_ok h hx.2.2
    · split
      · exact stuckC_ok h
      · exact h


/-- The control after j deeds. -/
def runC (x : Nat → Deed) : Nat → Ctl
  | 0 => firstC
  | j + 1 => playC (runC x j) (x j)


theorem run_ok {n : Nat} {x : Nat → Deed} (h : ∀ k, k < n → (x k).Ok) : ∀ j, j ≤ n → (runC x j).Ok
  | 0, _ => firstC_ok
  | j + 1, hj => playC_ok (run_ok h j (by omega)) (h j (by omega))

/-- A window between the least and the greatest. -/
def Ctl.In (c : Ctl) : Prop := 2400 ≤ c.w ∧ c.w ≤ 1099511627776
theorem ack_in {c : Ctl} (h : c.In) {n t : Int} (hn : 0 ≤ n) : (ackC c n t).In ∧ c.w ≤ (ackC c n t).w := by
  obtain ⟨h1, h2⟩ := h
  show (2400 ≤ ackW c n t ∧ ackW c n t ≤ 1099511627776) ∧ c.w ≤ ackW c n t
  unfold ackW
  split
  · omega
  · split
    · unfold mn; repeat' split
      all_goals omega
    · split
      · omega
      · have : 0 ≤ 1200 * n / c.w := Int.ediv_nonneg (by omega) (by omega)
        unfold mn; repeat' split
        all_goals omega
theorem lost_in {c : Ctl} (h : c.In) {t now : Int} : (lostC c t now).In ∧ (lostC c t now).w ≤ c.w := by
  obtain ⟨h1, h2⟩ := h
  unfold lostC
  split
  · exact ⟨⟨h1, h2⟩, Int.le_refl _⟩
  · show (2400 ≤ mx (c.w / 2) 2400 ∧ mx (c.w / 2) 2400 ≤ 1099511627776) ∧ mx (c.w / 2) 2400 ≤ c.w
    unfold mx; split <;> omega
theorem stuck_in (c : Ctl) : (stuckC c).In := by
  show 2400 ≤ (2400 : Int) ∧ (2400 : Int) ≤ 1099511627776
  omega
theorem play_in {c : Ctl} (h : c.In) {x : Deed} (hx : x.Ok) : (playC c x).In ∧ (x.k = 0 → c.w ≤ (playC c x).w) ∧ (x.k = 1 → (playC c x).w ≤ c.w) := by
  unfold playC
  split
  · rename_i h0
    exact ⟨(ack_in h hx.1.1).1, fun _ => (ack_in h hx.1.1).2, fun h1 => by omega⟩
  · rename_i h0
    split
    · exact ⟨(lost_in h).1, fun h1 => absurd h1 h0, fun _ => (lost_in h).2⟩
    · rename_i h1
      split
      · exact ⟨stuck_in c, fun h2 => absurd h2 h0, fun h2 => absurd h2 h1⟩
      · exact ⟨h, fun h2 => absurd h2 h0, fun h2 => absurd h2 h1⟩
theorem window_lies {n : Nat} {x : Nat → Deed} (h : ∀ k, k < n → (x k).Ok) : ∀ j, j ≤ n → (runC x j).In
  | 0, _ => by show 2400 ≤ (12000 : Int) ∧ (12000 : Int) ≤ 1099511627776; omega
  | j + 1, hj => (play_in (window_lies h j (by omega)) (h j (by omega))).1
end Go.Proofs.Ytiddiiiffjibfaa

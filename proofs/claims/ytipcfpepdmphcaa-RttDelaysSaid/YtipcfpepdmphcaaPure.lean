/-
  Plain laws of estimates. No program in sight.
-/
import Derived.Test.YtipcfpepdmphcaaPlain
namespace Go.Proofs.Ytipcfpepdmphcaa

theorem mn_self (t : Int) : mn t t = t := by unfold mn; split <;> rfl
theorem mx_self (t : Int) : mx t t = t := by unfold mx; split <;> rfl
theorem own_zero {le t : Int} (_h : le ≤ t) : ownT le t 0 = t := by unfold ownT; split <;> omega
theorem mn_le (a b : Int) : mn a b ≤ a ∧ mn a b ≤ b := by unfold mn; split <;> omega
theorem mx_ge (a b : Int) : a ≤ mx a b ∧ b ≤ mx a b := by unfold mx; split <;> omega
theorem sample_at {e : Est} (hl : e.Low) {t d : Int} (ht : t ≤ 1099511627776) (hk : e.kn = true) :
    sampleE e t d = ⟨t, mn e.le t, (7 * e.sm + ownT (mn e.le t) t d) / 8, (3 * e.va + (mx e.sm (ownT (mn e.le t) t d) - mn e.sm (ownT (mn e.le t) t d))) / 4, true⟩ := by
  unfold sampleE
  rw [if_neg (by intro hh; rcases hh with hh | hh; omega; exact hh hl), if_neg (by rw [hk]; simp)]
theorem sample_first {e : Est} (hl : e.Low) {t d : Int} (ht : t ≤ 1099511627776) (hk : e.kn = false) : sampleE e t d = ⟨t, t, t, t / 2, true⟩ := by
  unfold sampleE
  rw [if_neg (by intro hh; rcases hh with hh | hh; omega; exact hh hl), if_pos hk]

/-- RttSteady: the same time, again and again. -/
def steadyE (t : Int) : Nat → Est
  | 0 => ⟨0, 0, 333, 166, false⟩
  | j + 1 => sampleE (steadyE t j) t 0
def fallsTo : Nat → Int
  | 0 => 549755813888
  | j + 1 => 3 * fallsTo j / 4
theorem falls_end : fallsTo 199 < 4 := by decide +kernel
theorem first_low' : Est.Low ⟨0, 0, 333, 166, false⟩ := by
  show (0 : Int) ≤ 1099511627776 ∧ (0 : Int) ≤ 1099511627776 ∧ (333 : Int) ≤ 1099511627776 ∧ (166 : Int) ≤ 1099511627776
  omega
theorem steady_is (t : Int) (h0 : 0 ≤ t) (h1 : t ≤ 1099511627776) (j : Nat) : ∃ v, steadyE t (j + 1) = ⟨t, t, t, v, true⟩ ∧ 0 ≤ v ∧ v ≤ t ∧ v ≤ fallsTo j := by
  induction j with
  | zero =>
    refine ⟨t / 2, sample_first first_low' h1 rfl, by omega, by omega, ?_⟩
    show t / 2 ≤ 549755813888
    omega
  | succ j ih =>
    obtain ⟨v, hv, v0, v1, v2⟩ := ih
    have hl : Est.Low ⟨t, t, t, v, true⟩ := ⟨h1, h1, h1, Int.le_trans v1 h1⟩
    refine ⟨3 * v / 4, ?_, by omega, by omega, ?_⟩
    · show sampleE (steadyE t (j + 1)) t 0 = _
      rw [hv, sample_at hl h1 rfl]
      simp only
      rw [mn_self, own_zero (Int.le_refl t), mx_self, mn_self]
      congr 1 <;> omega
    · show 3 * v / 4 ≤ 3 * fallsTo j / 4
      omega
theorem steady_next (t v : Int) (h1 : t ≤ 1099511627776) (v1 : v ≤ t) : sampleE ⟨t, t, t, v, true⟩ t 0 = ⟨t, t, t, 3 * v / 4, true⟩ := by
  have hl : Est.Low ⟨t, t, t, v, true⟩ := ⟨h1, h1, h1, Int.le_trans v1 h1⟩
  rw [sample_at hl h1 rfl]
  simp only
  rw [mn_self, own_zero (Int.le_refl t), mx_self, mn_self]
  congr 1 <;> omega

/-- After j rounds. -/
def StR (q : Int) (j : Nat) (wv : Int) (e : Est) : Prop :=
  (j = 0 ∧ e = ⟨0, 0, 333, 166, false⟩ ∧ wv = q) ∨ (∃ k v, j = k + 1 ∧ e = ⟨q, q, q, v, true⟩ ∧ wv = v ∧ 0 ≤ v ∧ v ≤ q ∧ v ≤ fallsTo k)
theorem steady_round {q : Int} (h0 : 0 ≤ q) (h1 : q ≤ 1099511627776) {j : Nat} {wv : Int} {e : Est} (h : StR q j wv e) :
    e.Ok ∧ ∃ nv, sampleE e q 0 = ⟨q, q, q, nv, true⟩ ∧ 0 ≤ nv ∧ nv ≤ wv ∧ StR q (j + 1) nv ⟨q, q, q, nv, true⟩ := by
  rcases h with ⟨rfl, rfl, rfl⟩ | ⟨k, v, rfl, rfl, rfl, v0, v1, v2⟩
  · refine ⟨⟨⟨by simp only; omega, by simp only; omega⟩, ⟨by simp only; omega, by simp only; omega⟩, ⟨by simp only; omega, by simp only; omega⟩, by simp only; omega, by simp only; omega⟩, wv / 2, sample_first first_low' h1 rfl, by omega, by omega, Or.inr ⟨0, wv / 2, rfl, rfl, rfl, by omega, by omega, ?_⟩⟩
    show wv / 2 ≤ 549755813888
    omega
  · refine ⟨⟨⟨by simp only; omega, by simp only; omega⟩, ⟨by simp only; omega, by simp only; omega⟩, ⟨by simp only; omega, by simp only; omega⟩, by simp only; omega, by simp only; omega⟩, 3 * wv / 4, steady_next q wv h1 v1, by omega, by omega, Or.inr ⟨k + 1, 3 * wv / 4, rfl, rfl, rfl, by omega, by omega, ?_⟩⟩
    show 3 * wv / 4 ≤ 3 * fallsTo k / 4
    omega
theorem steady_end {q wv : Int} {e : Est} (h : StR q 200 wv e) : e.va < 4 := by
  rcases h with ⟨h, -, -⟩ | ⟨k, v, hk, rfl, -, -, -, hv⟩
  · omega
  · obtain rfl : k = 199 := by omega
    have := falls_end
    show v < 4
    omega

/-- RttBetween: what holds of an estimate and of the least and the greatest time. -/
def Btw (e : Est) (low high : Int) : Prop :=
  e.Ok ∧ e.Low ∧ 0 ≤ low ∧ low ≤ high ∧ high ≤ 1099511627776 ∧ e.le = low ∧ low ≤ e.sm ∧ e.sm ≤ high ∧ e.va ≤ high ∧ e.kn = true
theorem own_in {low t d : Int} (hd : 0 ≤ d) (hl : low ≤ t) : low ≤ ownT low t d ∧ ownT low t d ≤ t := by
  unfold ownT; split <;> omega
theorem btw_step {e : Est} {low high : Int} (h : Btw e low high) {t d : Int} (ht0 : 0 ≤ t) (ht : t ≤ 1099511627776) (hd : 0 ≤ d) :
    Btw (sampleE e t d) (mn low t) (mx high t) ∧ (sampleE e t d).la = t := by
  obtain ⟨hok, hlow, h1, h2, h3, h4, h5, h6, h7, h8⟩ := h
  obtain ⟨g1, g2, g3, g4⟩ := sample_low hok hlow ht0 ht hd
  have e0 := sample_at (d := d) hlow ht h8
  have hv := hok.2.2.2.1
  rw [h4] at e0
  have hm := mn_le low t
  have hm0 : 0 ≤ mn low t := by unfold mn; split <;> omega
  have hx := mx_ge high t
  have hx2 : mx high t ≤ 1099511627776 := by unfold mx; split <;> omega
  have ho := own_in (low := mn low t) (t := t) hd hm.2
  rw [e0] at g1 g2 g3 g4 ⊢
  generalize ownT (mn low t) t d = o at *
  have hf : 0 ≤ mx e.sm o - mn e.sm o ∧ mx e.sm o - mn e.sm o ≤ mx high t := by
    constructor
    · unfold mx mn; split <;> split <;> omega
    · have : mx e.sm o ≤ mx high t := by
        show (if e.sm < o then o else e.sm) ≤ mx high t
        split <;> omega
      have : 0 ≤ mn e.sm o := by unfold mn; split <;> omega
      omega
  generalize mx e.sm o - mn e.sm o = f at *
  refine ⟨⟨g1, g2, hm0, by omega, hx2, rfl, ?_, ?_, ?_, rfl⟩, rfl⟩ <;> simp only <;> omega
theorem btw_first {t d : Int} (ht0 : 0 ≤ t) (ht : t ≤ 1099511627776) : Btw (sampleE ⟨0, 0, 333, 166, false⟩ t d) t t ∧ (sampleE ⟨0, 0, 333, 166, false⟩ t d).la = t := by
  rw [sample_first first_low' ht rfl]
  refine ⟨⟨⟨⟨?_, ?_⟩, ⟨?_, ?_⟩, ⟨?_, ?_⟩, ?_, ?_⟩, ⟨?_, ?_, ?_, ?_⟩, ?_, ?_, ?_, rfl, ?_, ?_, ?_, rfl⟩, rfl⟩ <;> (try simp only) <;> omega

/-- RttDelays. -/
theorem delays {e : Est} (hlow : e.Low) {t d : Int} (ht : t ≤ 1099511627776) (hd : 0 ≤ d) :
    (sampleE e t d).sm ≤ (sampleE e t 0).sm ∧ (sampleE e t d).le = (sampleE e t 0).le ∧ (sampleE e t d).la = (sampleE e t 0).la ∧
    (e.kn = false → sampleE e t d = sampleE e t 0) ∧ (e.kn = true → d ≠ 0 → ¬ (d ≤ t ∧ (sampleE e t d).le ≤ t - d) → sampleE e t d = sampleE e t 0) := by
  cases hk : e.kn
  · have h1 := sample_first (d := d) hlow ht hk
    have h2 := sample_first (d := 0) hlow ht hk
    rw [h1, h2]
    exact ⟨Int.le_refl _, rfl, rfl, fun _ => rfl, fun _ _ _ => rfl⟩
  · have h1 := sample_at (d := d) hlow ht hk
    have h2 := sample_at (d := 0) hlow ht hk
    have hm := mn_le e.le t
    rw [own_zero hm.2] at h2
    have ho := own_in (low := mn e.le t) (t := t) hd hm.2
    rw [h1, h2]
    refine ⟨by simp only; omega, rfl, rfl, (fun h => by cases h), (fun _ _ hn => ?_)⟩
    simp only at hn
    have : ownT (mn e.le t) t d = t := by unfold ownT; rw [if_neg hn]
    rw [this]

/-- RttCalms. -/
def far (a b : Int) : Int := mx a b - mn a b
theorem calms {e : Est} (hok : e.Ok) (hlow : e.Low) (hk : e.kn = true) {t : Int} (_ht0 : 0 ≤ t) (ht : t ≤ 1099511627776) :
    (sampleE e t 0).va ≤ mx e.va (far e.sm t) ∧ far (sampleE e t 0).sm t ≤ far e.sm t ∧ (sampleE e t 0).kn = true := by
  have h2 := sample_at (d := 0) hlow ht hk
  have hm := mn_le e.le t
  rw [own_zero hm.2] at h2
  obtain ⟨⟨a0, a1⟩, ⟨b0, b1⟩, ⟨c0, c1⟩, v0, v1⟩ := hok
  rw [h2]
  refine ⟨?_, ?_, rfl⟩
  · show (3 * e.va + far e.sm t) / 4 ≤ mx e.va (far e.sm t)
    generalize far e.sm t = f
    unfold mx; split <;> omega
  · show far ((7 * e.sm + t) / 8) t ≤ far e.sm t
    unfold far mx mn
    repeat' split
    all_goals omega

/-- RttGrows. -/
theorem grows_twice {e : Est} {m : Int} (k : Nat) : probeE e m (k + 1) = 2 * probeE e m k := by
  unfold probeE; rw [two, ← Int.mul_assoc, Int.mul_comm]
theorem wait_ge {e : Est} (hok : e.Ok) : mn (mx e.la e.sm) 1099511627776 ≤ waitE e := by
  obtain ⟨⟨a0, a1⟩, ⟨b0, b1⟩, ⟨c0, c1⟩, v0, v1⟩ := hok
  unfold waitE
  have h : mn (mx e.la e.sm) 1099511627776 = mx (mn e.la 1099511627776) (mn e.sm 1099511627776) := by
    unfold mx mn; repeat' split
    all_goals omega
  rw [h]
  have h0 : 0 ≤ mx (mn e.la 1099511627776) (mn e.sm 1099511627776) := by
    unfold mx mn; repeat' split
    all_goals omega
  generalize mx (mn e.la 1099511627776) (mn e.sm 1099511627776) = x at *
  have := (mx_ge (9 * x / 8) 1).1
  omega
end Go.Proofs.Ytipcfpepdmphcaa

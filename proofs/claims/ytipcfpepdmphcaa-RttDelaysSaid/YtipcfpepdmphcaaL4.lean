/-
  Pairs that come in; an estimate in a block of its own where another one is written.
-/
import Derived.Test.YtipcfpepdmphcaaW6
namespace Go.Proofs.Ytipcfpepdmphcaa
open Go.RowKit

/-- The slice of pairs that came in. -/
def Prs (w : World) (B : Nat) (A : Option Addr) (n : Nat) (x : Nat → Int × Int) : Prop :=
  ∀ k, k < n → ∃ b off, A = some ⟨b, off, none⟩ ∧ b < B ∧ w.cell? ⟨b, off + k * 2, none⟩ = some (.int .u64 (x k).1) ∧ w.cell? ⟨b, off + k * 2 + 1, none⟩ = some (.int .u64 (x k).2) ∧ Word (x k).1 ∧ Word (x k).2
theorem Prs.below {w w' : World} {B : Nat} {A : Option Addr} {n : Nat} {x : Nat → Int × Int} (h : Prs w B A n x) (hb : Below B w w') : Prs w' B A n x := fun k hk => by
  obtain ⟨b, off, e, hB, h0, h1, r⟩ := h k hk
  exact ⟨b, off, e, hB, (hb.cell hB).trans h0, (hb.cell hB).trans h1, r⟩
theorem Prs.ok {w : World} {B : Nat} {A : Option Addr} {n : Nat} {x : Nat → Int × Int} (h : Prs w B A n x) : ∀ k, k < n → Word (x k).1 ∧ Word (x k).2 := fun k hk => by
  obtain ⟨_, _, _, _, _, _, r⟩ := h k hk
  exact r
theorem EB.far5 {w : World} {b : Nat} {e : Est} (h : EB w b e) {g : Nat} (hp : b ≠ g) (v0 v1 v2 v3 v4 : Value) :
    EB (((((w.setCell ⟨g, 0, none⟩ v0).setCell ⟨g, 1, none⟩ v1).setCell ⟨g, 2, none⟩ v2).setCell ⟨g, 3, none⟩ v3).setCell ⟨g, 4, none⟩ v4) b e :=
  ((((h.far (p := ⟨g, 0, none⟩) hp v0).far (p := ⟨g, 1, none⟩) hp v1).far (p := ⟨g, 2, none⟩) hp v2).far (p := ⟨g, 3, none⟩) hp v3).far (p := ⟨g, 4, none⟩) hp v4
theorem below_set5 {B : Nat} {a w : World} (h : Below B a w) {g : Nat} (hg : B ≤ g) (v0 v1 v2 v3 v4 : Value) :
    Below B a (((((w.setCell ⟨g, 0, none⟩ v0).setCell ⟨g, 1, none⟩ v1).setCell ⟨g, 2, none⟩ v2).setCell ⟨g, 3, none⟩ v3).setCell ⟨g, 4, none⟩ v4) :=
  ((((h.setCell (p := ⟨g, 0, none⟩) hg v0).setCell (p := ⟨g, 1, none⟩) hg v1).setCell (p := ⟨g, 2, none⟩) hg v2).setCell (p := ⟨g, 3, none⟩) hg v3).setCell (p := ⟨g, 4, none⟩) hg v4

end Go.Proofs.Ytipcfpepdmphcaa

/-
  The least rule that an event breaks: the walk, whole.
-/
import Derived.Test.YtiefkpfjmbifcaaW11a
import Derived.Test.YtiefkpfjmbifcaaW11b
import Derived.Test.YtiefkpfjmbifcaaW11c
import Derived.Test.YtiefkpfjmbifcaaW11d
import Derived.Test.YtiefkpfjmbifcaaW11e
namespace Go.Proofs.Ytiefkpfjmbifcaa
open Go.RowKit Go.Maps

theorem broken_any {w : World} {M : Mem} {n : Nat} {s : St} (h : CK w M n s) (e : Ev) (he : e.Ok) (hn : n + 1 < maxLen) {B0 : Nat} (hB0 : B0 ≤ w.heap.size) (hr : Rng w B0 e.f.la e.f.ln e.f.rs) :
    Calls Try.prog 12 #[.pointer (some ⟨M.B, 0, none⟩), evV e] w (Told M (n + 2) s (.int .i64 (brokenF s e)) w) := by
  cases h1 : timedF s e
  · exact broken_tm h e he hn hB0 hr h1
  cases h2 : goesF s e
  · exact broken_go h e he hn hB0 hr h1 h2
  rcases (show e.k = 5 ∨ e.k = 6 ∨ e.k = 8 ∨ e.k = 11 ∨ e.k = 10 ∨ e.k = 13 ∨ (e.k ≠ 5 ∧ e.k ≠ 6 ∧ e.k ≠ 8 ∧ e.k ≠ 11 ∧ e.k ≠ 10 ∧ e.k ≠ 13) from by omega) with k | k | k | k | k | k | k
  · exact broken_5 h e he hn hB0 hr h1 h2 k
  · exact broken_6 h e he hn hB0 hr h1 h2 k
  · exact broken_8 h e he hn hB0 hr h1 h2 k
  · exact broken_11 h e he hn hB0 hr h1 h2 k
  · exact broken_10 h e he hn hB0 hr h1 h2 k
  · exact broken_13 h e he hn hB0 hr h1 h2 k
  · exact broken_0 h e he hn hB0 hr h1 h2 k
end Go.Proofs.Ytiefkpfjmbifcaa

/-
  No cell of these rows narrows 'for every input' (looked for: loops, veiled, ifaces, maps, wideKeys, modest, calm, conditions, laid).
  DERIVED. THE GIVEN ROWS OF THIS SEAT. 5 by the template 'for every input the law returns true; each argument reads behind the call as it read before'; 0 by the template 'total and deterministic' (their statements: YtiefkpfjmbifcaaTotals.lean).
  GIVEN WITH THE SEED: the statements are not yours to turn. If you find one false, say at which input.
  Laid BY PROGRAM, IN A SANDBOX (cutbox-rows.mjs): the forced cells as the released guide's own fill.sh prints them over the translation bf05f790c578fc4d… (all of the seat's roots in one cut). By AI agents, Wed Nov 11 2026. No macro, syntax, notation, axiom, sorry.
-/
import Derived.Test.YtiefkpfjmbifcaaChecked
import GoSem.Claim
import GoSem.ClaimJoined
import GoSem.ClaimMapViews
import Derived.JoinedTies
import Derived.KernelRfl
namespace Go.Proofs.Ytiefkpfjmbifcaa
/- THE CELL 'sum', in the pinned program and in every row, IS THE sha256 OF THE DUMP (.gsa) THAT YtiefkpfjmbifcaaProg.lean LOADS. Nothing in Lean hashes anything: it is a label: what it is worth is what the hold of that sum in a sandbox is worth. -/
noncomputable def Try.pinned : Pinned := { name := "ytiefkpfjmbifcaa", sum := "bf05f790c578fc4d215315a707b8f287e8145931ab1616e59cc2f79233781161", checked := Try.checked }
namespace Rows
def none {H : Type} : Left H := { results := [], args := [] }

/-- 'kymographlaw20.CheckFirst': WHATEVER THE INPUT: true; the input reads as it did. -/
def checkFirstSpec : ChangeSpec := { name := "checkFirst", fn := fun _ => fun
  | [d1, d2, d3] => { results := [.lit (.bool true)], args := [d1, d2, d3] }
  | _ => none }
def checkFirstRow : OpenClaim := { program := "ytiefkpfjmbifcaa", sum := "bf05f790c578fc4d215315a707b8f287e8145931ab1616e59cc2f79233781161", func := "kymograph/kymographlaw20.CheckFirst", spec := "checkFirst", plainKeys := false, apart := false }
def CheckFirstSaid : Prop := checkFirstRow.holds Try.pinned (OpenSpec.ofChange checkFirstSpec)

/-- ITS FALSE NEIGHBOUR: 'it returns false'. Refute it at one input. -/
def checkFirstWrong : ChangeSpec := { name := "checkFirst", fn := fun _ => fun
  | [d1, d2, d3] => { results := [.lit (.bool false)], args := [d1, d2, d3] }
  | _ => none }
def CheckFirstWrongFalsely : Prop := checkFirstRow.holds Try.pinned (OpenSpec.ofChange checkFirstWrong)

/-- 'kymographlaw20.CheckPrefixes': WHATEVER THE INPUT: true; the input reads as it did. -/
def checkPrefixesSpec : ChangeSpec := { name := "checkPrefixes", fn := fun _ => fun
  | [d1, d2, d3] => { results := [.lit (.bool true)], args := [d1, d2, d3] }
  | _ => none }
def checkPrefixesRow : OpenClaim := { program := "ytiefkpfjmbifcaa", sum := "bf05f790c578fc4d215315a707b8f287e8145931ab1616e59cc2f79233781161", func := "kymograph/kymographlaw20.CheckPrefixes", spec := "checkPrefixes", plainKeys := false, apart := false }
def CheckPrefixesSaid : Prop := checkPrefixesRow.holds Try.pinned (OpenSpec.ofChange checkPrefixesSpec)

/-- ITS FALSE NEIGHBOUR: 'it returns false'. Refute it at one input. -/
def checkPrefixesWrong : ChangeSpec := { name := "checkPrefixes", fn := fun _ => fun
  | [d1, d2, d3] => { results := [.lit (.bool false)], args := [d1, d2, d3] }
  | _ => none }
def CheckPrefixesWrongFalsely : Prop := checkPrefixesRow.holds Try.pinned (OpenSpec.ofChange checkPrefixesWrong)

/-- 'kymographlaw20.CheckNumbers': WHATEVER THE INPUT: true; the input reads as it did. -/
def checkNumbersSpec : ChangeSpec := { name := "checkNumbers", fn := fun _ => fun
  | [d1, d2] => { results := [.lit (.bool true)], args := [d1, d2] }
  | _ => none }
def checkNumbersRow : OpenClaim := { program := "ytiefkpfjmbifcaa", sum := "bf05f790c578fc4d215315a707b8f287e8145931ab1616e59cc2f79233781161", func := "kymograph/kymographlaw20.CheckNumbers", spec := "checkNumbers", plainKeys := false, apart := false }
def CheckNumbersSaid : Prop := checkNumbersRow.holds Try.pinned (OpenSpec.ofChange checkNumbersSpec)

/-- ITS FALSE NEIGHBOUR: 'it returns false'. Refute it at one input. -/
def checkNumbersWrong : ChangeSpec := { name := "checkNumbers", fn := fun _ => fun
  | [d1, d2] => { results := [.lit (.bool false)], args := [d1, d2] }
  | _ => none }
def CheckNumbersWrongFalsely : Prop := checkNumbersRow.holds Try.pinned (OpenSpec.ofChange checkNumbersWrong)

/-- 'kymographlaw20.CheckCloses': WHATEVER THE INPUT: true; the input reads as it did. -/
def checkClosesSpec : ChangeSpec := { name := "checkCloses", fn := fun _ => fun
  | [d1, d2] => { results := [.lit (.bool true)], args := [d1, d2] }
  | _ => none }
def checkClosesRow : OpenClaim := { program := "ytiefkpfjmbifcaa", sum := "bf05f790c578fc4d215315a707b8f287e8145931ab1616e59cc2f79233781161", func := "kymograph/kymographlaw20.CheckCloses", spec := "checkCloses", plainKeys := false, apart := false }
def CheckClosesSaid : Prop := checkClosesRow.holds Try.pinned (OpenSpec.ofChange checkClosesSpec)

/-- ITS FALSE NEIGHBOUR: 'it returns false'. Refute it at one input. -/
def checkClosesWrong : ChangeSpec := { name := "checkCloses", fn := fun _ => fun
  | [d1, d2] => { results := [.lit (.bool false)], args := [d1, d2] }
  | _ => none }
def CheckClosesWrongFalsely : Prop := checkClosesRow.holds Try.pinned (OpenSpec.ofChange checkClosesWrong)

/-- 'kymographlaw20.CheckFinals': WHATEVER THE INPUT: true; the input reads as it did. -/
def checkFinalsSpec : ChangeSpec := { name := "checkFinals", fn := fun _ => fun
  | [d1, d2] => { results := [.lit (.bool true)], args := [d1, d2] }
  | _ => none }
def checkFinalsRow : OpenClaim := { program := "ytiefkpfjmbifcaa", sum := "bf05f790c578fc4d215315a707b8f287e8145931ab1616e59cc2f79233781161", func := "kymograph/kymographlaw20.CheckFinals", spec := "checkFinals", plainKeys := false, apart := false }
def CheckFinalsSaid : Prop := checkFinalsRow.holds Try.pinned (OpenSpec.ofChange checkFinalsSpec)

/-- ITS FALSE NEIGHBOUR: 'it returns false'. Refute it at one input. -/
def checkFinalsWrong : ChangeSpec := { name := "checkFinals", fn := fun _ => fun
  | [d1, d2] => { results := [.lit (.bool false)], args := [d1, d2] }
  | _ => none }
def CheckFinalsWrongFalsely : Prop := checkFinalsRow.holds Try.pinned (OpenSpec.ofChange checkFinalsWrong)

/- THE SECOND FORM. 'bulk': how many values and letters a reading holds, each counted each time it is reached (what is shared counts as often as it is met; a slice's spare places count too). A statement '..UptoSaid' is the law's where the arguments, and the package variables that the reading takes, are together of bulk at most 1048576: NARROWER than '..Said'. Prove '..Said' where nothing that the law and all that it calls make is longer than what came in: it says more and counts as full. Else prove '..UptoSaid'. A law counts once. -/
mutual
def uptoBulk {H : Type} : DataW H → Nat
  | .lit (.string bytes) => bytes.length + 1
  | .lit _ => 1
  | .nil => 1
  | .ptr d => uptoBulk d + 1
  | .slice elems spare => uptoBulkAll elems + uptoBulkAll spare + 1
  | .agg parts => uptoBulkAll parts + 1
  | .iface _ d => uptoBulk d + 1
  | .map entries => uptoBulkEntries entries + 1
  | .held _ => 1
def uptoBulkAll {H : Type} : List (DataW H) → Nat
  | [] => 0
  | d :: r => uptoBulk d + uptoBulkAll r
def uptoBulkEntries {H : Type} : List (Lit × DataW H) → Nat
  | [] => 0
  | x :: r => uptoBulkEntry x + uptoBulkEntries r
def uptoBulkEntry {H : Type} : Lit × DataW H → Nat
  | (.string bytes, d) => bytes.length + uptoBulk d + 1
  | (_, d) => uptoBulk d + 1
 end
def uptoSmall : (H : Type) → List (DataW H) → Bool := fun _ ds => decide (uptoBulkAll ds ≤ 1048576)
def OpenSpec.upto (s : _root_.Go.ChangeSpec) : _root_.Go.OpenSpec := { _root_.Go.OpenSpec.ofChange s with cond := some uptoSmall }

/-- 'kymographlaw20.CheckFirst', WHERE WHAT IT READS IS OF BULK AT MOST 1048576: true; the input reads as it did. -/
def checkFirstUptoRow : OpenClaim := { program := "ytiefkpfjmbifcaa", sum := "bf05f790c578fc4d215315a707b8f287e8145931ab1616e59cc2f79233781161", func := "kymograph/kymographlaw20.CheckFirst", spec := "checkFirst", plainKeys := false, apart := false, narrowed := true }
def CheckFirstUptoSaid : Prop := checkFirstUptoRow.holds Try.pinned (OpenSpec.upto checkFirstSpec)

/-- 'kymographlaw20.CheckPrefixes', WHERE WHAT IT READS IS OF BULK AT MOST 1048576: true; the input reads as it did. -/
def checkPrefixesUptoRow : OpenClaim := { program := "ytiefkpfjmbifcaa", sum := "bf05f790c578fc4d215315a707b8f287e8145931ab1616e59cc2f79233781161", func := "kymograph/kymographlaw20.CheckPrefixes", spec := "checkPrefixes", plainKeys := false, apart := false, narrowed := true }
def CheckPrefixesUptoSaid : Prop := checkPrefixesUptoRow.holds Try.pinned (OpenSpec.upto checkPrefixesSpec)

/-- 'kymographlaw20.CheckNumbers', WHERE WHAT IT READS IS OF BULK AT MOST 1048576: true; the input reads as it did. -/
def checkNumbersUptoRow : OpenClaim := { program := "ytiefkpfjmbifcaa", sum := "bf05f790c578fc4d215315a707b8f287e8145931ab1616e59cc2f79233781161", func := "kymograph/kymographlaw20.CheckNumbers", spec := "checkNumbers", plainKeys := false, apart := false, narrowed := true }
def CheckNumbersUptoSaid : Prop := checkNumbersUptoRow.holds Try.pinned (OpenSpec.upto checkNumbersSpec)

/-- 'kymographlaw20.CheckCloses', WHERE WHAT IT READS IS OF BULK AT MOST 1048576: true; the input reads as it did. -/
def checkClosesUptoRow : OpenClaim := { program := "ytiefkpfjmbifcaa", sum := "bf05f790c578fc4d215315a707b8f287e8145931ab1616e59cc2f79233781161", func := "kymograph/kymographlaw20.CheckCloses", spec := "checkCloses", plainKeys := false, apart := false, narrowed := true }
def CheckClosesUptoSaid : Prop := checkClosesUptoRow.holds Try.pinned (OpenSpec.upto checkClosesSpec)

/-- 'kymographlaw20.CheckFinals', WHERE WHAT IT READS IS OF BULK AT MOST 1048576: true; the input reads as it did. -/
def checkFinalsUptoRow : OpenClaim := { program := "ytiefkpfjmbifcaa", sum := "bf05f790c578fc4d215315a707b8f287e8145931ab1616e59cc2f79233781161", func := "kymograph/kymographlaw20.CheckFinals", spec := "checkFinals", plainKeys := false, apart := false, narrowed := true }
def CheckFinalsUptoSaid : Prop := checkFinalsUptoRow.holds Try.pinned (OpenSpec.upto checkFinalsSpec)

end Rows
end Go.Proofs.Ytiefkpfjmbifcaa

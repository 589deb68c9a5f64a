/-
  No cell of these rows narrows 'for every input' (looked for: loops, veiled, ifaces, maps, wideKeys, modest, calm, conditions, laid).
  DERIVED. THE GIVEN ROWS OF THIS SEAT. 7 by the template 'for every input the law returns true; each argument reads behind the call as it read before'; 0 by the template 'total and deterministic' (their statements: YtipcfpepdmphcaaTotals.lean).
  GIVEN WITH THE SEED: the statements are not yours to turn. If you find one false, say at which input.
  Laid BY PROGRAM, IN A SANDBOX (cutbox-rows.mjs): the forced cells as the released guide's own fill.sh prints them over the translation bfa9747b25702051… (all of the seat's roots in one cut). By AI agents, Wed Nov 11 2026. No macro, syntax, notation, axiom, sorry.
-/
import Derived.Test.YtipcfpepdmphcaaChecked
import GoSem.Claim
import GoSem.ClaimJoined
import GoSem.ClaimMapViews
import Derived.JoinedTies
import Derived.KernelRfl
namespace Go.Proofs.Ytipcfpepdmphcaa
/- THE CELL 'sum', in the pinned program and in every row, IS THE sha256 OF THE DUMP (.gsa) THAT YtipcfpepdmphcaaProg.lean LOADS. Nothing in Lean hashes anything: it is a label: what it is worth is what the hold of that sum in a sandbox is worth. -/
noncomputable def Try.pinned : Pinned := { name := "ytipcfpepdmphcaa", sum := "bfa9747b25702051056ae32a3f1dccd995be283785ba0d261d66cd23513f5f2b", checked := Try.checked }
namespace Rows
def none {H : Type} : Left H := { results := [], args := [] }

/-- 'kymographlaw09.RttTells': WHATEVER THE INPUT: true; the input reads as it did. -/
def rttTellsSpec : ChangeSpec := { name := "rttTells", fn := fun _ => fun
  | [d1, d2, d3, d4] => { results := [.lit (.bool true)], args := [d1, d2, d3, d4] }
  | _ => none }
def rttTellsRow : OpenClaim := { program := "ytipcfpepdmphcaa", sum := "bfa9747b25702051056ae32a3f1dccd995be283785ba0d261d66cd23513f5f2b", func := "kymograph/kymographlaw09.RttTells", spec := "rttTells", apart := false }
def RttTellsSaid : Prop := rttTellsRow.holds Try.pinned (OpenSpec.ofChange rttTellsSpec)

/-- ITS FALSE NEIGHBOUR: 'it returns false'. Refute it at one input. -/
def rttTellsWrong : ChangeSpec := { name := "rttTells", fn := fun _ => fun
  | [d1, d2, d3, d4] => { results := [.lit (.bool false)], args := [d1, d2, d3, d4] }
  | _ => none }
def RttTellsWrongFalsely : Prop := rttTellsRow.holds Try.pinned (OpenSpec.ofChange rttTellsWrong)

/-- 'kymographlaw09.RttSamples': WHATEVER THE INPUT: true; the input reads as it did. -/
def rttSamplesSpec : ChangeSpec := { name := "rttSamples", fn := fun _ => fun
  | [d] => { results := [.lit (.bool true)], args := [d] }
  | _ => none }
def rttSamplesRow : OpenClaim := { program := "ytipcfpepdmphcaa", sum := "bfa9747b25702051056ae32a3f1dccd995be283785ba0d261d66cd23513f5f2b", func := "kymograph/kymographlaw09.RttSamples", spec := "rttSamples", apart := false }
def RttSamplesSaid : Prop := rttSamplesRow.holds Try.pinned (OpenSpec.ofChange rttSamplesSpec)

/-- ITS FALSE NEIGHBOUR: 'it returns false'. Refute it at one input. -/
def rttSamplesWrong : ChangeSpec := { name := "rttSamples", fn := fun _ => fun
  | [d] => { results := [.lit (.bool false)], args := [d] }
  | _ => none }
def RttSamplesWrongFalsely : Prop := rttSamplesRow.holds Try.pinned (OpenSpec.ofChange rttSamplesWrong)

/-- 'kymographlaw09.RttBetween': WHATEVER THE INPUT: true; the input reads as it did. -/
def rttBetweenSpec : ChangeSpec := { name := "rttBetween", fn := fun _ => fun
  | [d] => { results := [.lit (.bool true)], args := [d] }
  | _ => none }
def rttBetweenRow : OpenClaim := { program := "ytipcfpepdmphcaa", sum := "bfa9747b25702051056ae32a3f1dccd995be283785ba0d261d66cd23513f5f2b", func := "kymograph/kymographlaw09.RttBetween", spec := "rttBetween", apart := false }
def RttBetweenSaid : Prop := rttBetweenRow.holds Try.pinned (OpenSpec.ofChange rttBetweenSpec)

/-- ITS FALSE NEIGHBOUR: 'it returns false'. Refute it at one input. -/
def rttBetweenWrong : ChangeSpec := { name := "rttBetween", fn := fun _ => fun
  | [d] => { results := [.lit (.bool false)], args := [d] }
  | _ => none }
def RttBetweenWrongFalsely : Prop := rttBetweenRow.holds Try.pinned (OpenSpec.ofChange rttBetweenWrong)

/-- 'kymographlaw09.RttSteady': WHATEVER THE INPUT: true; the input reads as it did. -/
def rttSteadySpec : ChangeSpec := { name := "rttSteady", fn := fun _ => fun
  | [d] => { results := [.lit (.bool true)], args := [d] }
  | _ => none }
def rttSteadyRow : OpenClaim := { program := "ytipcfpepdmphcaa", sum := "bfa9747b25702051056ae32a3f1dccd995be283785ba0d261d66cd23513f5f2b", func := "kymograph/kymographlaw09.RttSteady", spec := "rttSteady", apart := false }
def RttSteadySaid : Prop := rttSteadyRow.holds Try.pinned (OpenSpec.ofChange rttSteadySpec)

/-- ITS FALSE NEIGHBOUR: 'it returns false'. Refute it at one input. -/
def rttSteadyWrong : ChangeSpec := { name := "rttSteady", fn := fun _ => fun
  | [d] => { results := [.lit (.bool false)], args := [d] }
  | _ => none }
def RttSteadyWrongFalsely : Prop := rttSteadyRow.holds Try.pinned (OpenSpec.ofChange rttSteadyWrong)

/-- 'kymographlaw09.RttGrows': WHATEVER THE INPUT: true; the input reads as it did. -/
def rttGrowsSpec : ChangeSpec := { name := "rttGrows", fn := fun _ => fun
  | [d1, d2] => { results := [.lit (.bool true)], args := [d1, d2] }
  | _ => none }
def rttGrowsRow : OpenClaim := { program := "ytipcfpepdmphcaa", sum := "bfa9747b25702051056ae32a3f1dccd995be283785ba0d261d66cd23513f5f2b", func := "kymograph/kymographlaw09.RttGrows", spec := "rttGrows", apart := false }
def RttGrowsSaid : Prop := rttGrowsRow.holds Try.pinned (OpenSpec.ofChange rttGrowsSpec)

/-- ITS FALSE NEIGHBOUR: 'it returns false'. Refute it at one input. -/
def rttGrowsWrong : ChangeSpec := { name := "rttGrows", fn := fun _ => fun
  | [d1, d2] => { results := [.lit (.bool false)], args := [d1, d2] }
  | _ => none }
def RttGrowsWrongFalsely : Prop := rttGrowsRow.holds Try.pinned (OpenSpec.ofChange rttGrowsWrong)

/-- 'kymographlaw09.RttDelays': WHATEVER THE INPUT: true; the input reads as it did. -/
def rttDelaysSpec : ChangeSpec := { name := "rttDelays", fn := fun _ => fun
  | [d1, d2, d3] => { results := [.lit (.bool true)], args := [d1, d2, d3] }
  | _ => none }
def rttDelaysRow : OpenClaim := { program := "ytipcfpepdmphcaa", sum := "bfa9747b25702051056ae32a3f1dccd995be283785ba0d261d66cd23513f5f2b", func := "kymograph/kymographlaw09.RttDelays", spec := "rttDelays", apart := false }
def RttDelaysSaid : Prop := rttDelaysRow.holds Try.pinned (OpenSpec.ofChange rttDelaysSpec)

/-- ITS FALSE NEIGHBOUR: 'it returns false'. Refute it at one input. -/
def rttDelaysWrong : ChangeSpec := { name := "rttDelays", fn := fun _ => fun
  | [d1, d2, d3] => { results := [.lit (.bool false)], args := [d1, d2, d3] }
  | _ => none }
def RttDelaysWrongFalsely : Prop := rttDelaysRow.holds Try.pinned (OpenSpec.ofChange rttDelaysWrong)

/-- 'kymographlaw09.RttCalms': WHATEVER THE INPUT: true; the input reads as it did. -/
def rttCalmsSpec : ChangeSpec := { name := "rttCalms", fn := fun _ => fun
  | [d1, d2] => { results := [.lit (.bool true)], args := [d1, d2] }
  | _ => none }
def rttCalmsRow : OpenClaim := { program := "ytipcfpepdmphcaa", sum := "bfa9747b25702051056ae32a3f1dccd995be283785ba0d261d66cd23513f5f2b", func := "kymograph/kymographlaw09.RttCalms", spec := "rttCalms", unfollowed := true, recurses := true, apart := false }
def RttCalmsSaid : Prop := rttCalmsRow.holds Try.pinned (OpenSpec.ofChange rttCalmsSpec)

/-- ITS FALSE NEIGHBOUR: 'it returns false'. Refute it at one input. -/
def rttCalmsWrong : ChangeSpec := { name := "rttCalms", fn := fun _ => fun
  | [d1, d2] => { results := [.lit (.bool false)], args := [d1, d2] }
  | _ => none }
def RttCalmsWrongFalsely : Prop := rttCalmsRow.holds Try.pinned (OpenSpec.ofChange rttCalmsWrong)

/- THE SECOND FORM. 'bulk': how many values and letters a reading holds, each counted each time it is reached (what is shared counts as often as it is met; a slice's spare places count too). A statement '..UptoSaid' is the law's where the arguments, and the package variables that the reading takes, are together of bulk at most 1048576: NARROWER than '..Said'. Prove '..Said' where nothing that the law and all that it calls make is longer than what came in: it says more and counts as full. Else prove '..UptoSaid'. A law counts once. -/
mutual
def uptoBulk {H : Type} : DataW H → Nat
  | .lit (.string bytes) => bytes.length + 1
  | .lit _ => 1
  | .nil => 1
  | .ptr d => uptoBulk d + 1
  | .slice elems spare => uptoBulkAll elems + uptoBulkAll spare + 1
  | .agg parts => uptoBulkAll parts + 1
  | .iface _ d => uptoBulk d + 1
  | .map entries => uptoBulkEntries entries + 1
  | .held _ => 1
def uptoBulkAll {H : Type} : List (DataW H) → Nat
  | [] => 0
  | d :: r => uptoBulk d + uptoBulkAll r
def uptoBulkEntries {H : Type} : List (Lit × DataW H) → Nat
  | [] => 0
  | x :: r => uptoBulkEntry x + uptoBulkEntries r
def uptoBulkEntry {H : Type} : Lit × DataW H → Nat
  | (.string bytes, d) => bytes.length + uptoBulk d + 1
  | (_, d) => uptoBulk d + 1
 end
def uptoSmall : (H : Type) → List (DataW H) → Bool := fun _ ds => decide (uptoBulkAll ds ≤ 1048576)
def OpenSpec.upto (s : _root_.Go.ChangeSpec) : _root_.Go.OpenSpec := { _root_.Go.OpenSpec.ofChange s with cond := some uptoSmall }

/-- 'kymographlaw09.RttTells', WHERE WHAT IT READS IS OF BULK AT MOST 1048576: true; the input reads as it did. -/
def rttTellsUptoRow : OpenClaim := { program := "ytipcfpepdmphcaa", sum := "bfa9747b25702051056ae32a3f1dccd995be283785ba0d261d66cd23513f5f2b", func := "kymograph/kymographlaw09.RttTells", spec := "rttTells", apart := false, narrowed := true }
def RttTellsUptoSaid : Prop := rttTellsUptoRow.holds Try.pinned (OpenSpec.upto rttTellsSpec)

/-- 'kymographlaw09.RttSamples', WHERE WHAT IT READS IS OF BULK AT MOST 1048576: true; the input reads as it did. -/
def rttSamplesUptoRow : OpenClaim := { program := "ytipcfpepdmphcaa", sum := "bfa9747b25702051056ae32a3f1dccd995be283785ba0d261d66cd23513f5f2b", func := "kymograph/kymographlaw09.RttSamples", spec := "rttSamples", apart := false, narrowed := true }
def RttSamplesUptoSaid : Prop := rttSamplesUptoRow.holds Try.pinned (OpenSpec.upto rttSamplesSpec)

/-- 'kymographlaw09.RttBetween', WHERE WHAT IT READS IS OF BULK AT MOST 1048576: true; the input reads as it did. -/
def rttBetweenUptoRow : OpenClaim := { program := "ytipcfpepdmphcaa", sum := "bfa9747b25702051056ae32a3f1dccd995be283785ba0d261d66cd23513f5f2b", func := "kymograph/kymographlaw09.RttBetween", spec := "rttBetween", apart := false, narrowed := true }
def RttBetweenUptoSaid : Prop := rttBetweenUptoRow.holds Try.pinned (OpenSpec.upto rttBetweenSpec)

/-- 'kymographlaw09.RttSteady', WHERE WHAT IT READS IS OF BULK AT MOST 1048576: true; the input reads as it did. -/
def rttSteadyUptoRow : OpenClaim := { program := "ytipcfpepdmphcaa", sum := "bfa9747b25702051056ae32a3f1dccd995be283785ba0d261d66cd23513f5f2b", func := "kymograph/kymographlaw09.RttSteady", spec := "rttSteady", apart := false, narrowed := true }
def RttSteadyUptoSaid : Prop := rttSteadyUptoRow.holds Try.pinned (OpenSpec.upto rttSteadySpec)

/-- 'kymographlaw09.RttGrows', WHERE WHAT IT READS IS OF BULK AT MOST 1048576: true; the input reads as it did. -/
def rttGrowsUptoRow : OpenClaim := { program := "ytipcfpepdmphcaa", sum := "bfa9747b25702051056ae32a3f1dccd995be283785ba0d261d66cd23513f5f2b", func := "kymograph/kymographlaw09.RttGrows", spec := "rttGrows", apart := false, narrowed := true }
def RttGrowsUptoSaid : Prop := rttGrowsUptoRow.holds Try.pinned (OpenSpec.upto rttGrowsSpec)

/-- 'kymographlaw09.RttDelays', WHERE WHAT IT READS IS OF BULK AT MOST 1048576: true; the input reads as it did. -/
def rttDelaysUptoRow : OpenClaim := { program := "ytipcfpepdmphcaa", sum := "bfa9747b25702051056ae32a3f1dccd995be283785ba0d261d66cd23513f5f2b", func := "kymograph/kymographlaw09.RttDelays", spec := "rttDelays", apart := false, narrowed := true }
def RttDelaysUptoSaid : Prop := rttDelaysUptoRow.holds Try.pinned (OpenSpec.upto rttDelaysSpec)

/-- 'kymographlaw09.RttCalms', WHERE WHAT IT READS IS OF BULK AT MOST 1048576: true; the input reads as it did. -/
def rttCalmsUptoRow : OpenClaim := { program := "ytipcfpepdmphcaa", sum := "bfa9747b25702051056ae32a3f1dccd995be283785ba0d261d66cd23513f5f2b", func := "kymograph/kymographlaw09.RttCalms", spec := "rttCalms", unfollowed := true, recurses := true, apart := false, narrowed := true }
def RttCalmsUptoSaid : Prop := rttCalmsUptoRow.holds Try.pinned (OpenSpec.upto rttCalmsSpec)

end Rows
end Go.Proofs.Ytipcfpepdmphcaa

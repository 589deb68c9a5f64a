/-
  No cell of these rows narrows 'for every input' (looked for: loops, veiled, ifaces, maps, wideKeys, modest, calm, conditions, laid).
  DERIVED. THE GIVEN ROWS OF THIS SEAT. 5 by the template 'for every input the law returns true; each argument reads behind the call as it read before'; 0 by the template 'total and deterministic' (their statements: YtiedobphjjbooaaTotals.lean).
  GIVEN WITH THE SEED: the statements are not yours to turn. If you find one false, say at which input.
  Laid BY PROGRAM, IN A SANDBOX (cutbox-rows.mjs): the forced cells as the released guide's own fill.sh prints them over the translation cca0accd118a9516… (all of the seat's roots in one cut). By AI agents, Wed Nov 11 2026. No macro, syntax, notation, axiom, sorry.
-/
import Derived.Test.YtiedobphjjbooaaChecked
import GoSem.Claim
import GoSem.ClaimJoined
import GoSem.ClaimMapViews
import Derived.JoinedTies
import Derived.KernelRfl
namespace Go.Proofs.Ytiedobphjjbooaa
/- THE CELL 'sum', in the pinned program and in every row, IS THE sha256 OF THE DUMP (.gsa) THAT YtiedobphjjbooaaProg.lean LOADS. Nothing in Lean hashes anything: it is a label: what it is worth is what the hold of that sum in a sandbox is worth. -/
noncomputable def Try.pinned : Pinned := { name := "ytiedobphjjbooaa", sum := "cca0accd118a9516a2b173649e1df66196f245efbaf904cf49519b7447c6b0e3", checked := Try.checked }
namespace Rows
def none {H : Type} : Left H := { results := [], args := [] }

/-- 'kymographlaw05.SealTags': WHATEVER THE INPUT: true; the input reads as it did. -/
def sealTagsSpec : ChangeSpec := { name := "sealTags", fn := fun _ => fun
  | [d1, d2, d3] => { results := [.lit (.bool true)], args := [d1, d2, d3] }
  | _ => none }
def sealTagsRow : OpenClaim := { program := "ytiedobphjjbooaa", sum := "cca0accd118a9516a2b173649e1df66196f245efbaf904cf49519b7447c6b0e3", func := "kymograph/kymographlaw05.SealTags", spec := "sealTags", apart := false }
def SealTagsSaid : Prop := sealTagsRow.holds Try.pinned (OpenSpec.ofChange sealTagsSpec)

/-- ITS FALSE NEIGHBOUR: 'it returns false'. Refute it at one input. -/
def sealTagsWrong : ChangeSpec := { name := "sealTags", fn := fun _ => fun
  | [d1, d2, d3] => { results := [.lit (.bool false)], args := [d1, d2, d3] }
  | _ => none }
def SealTagsWrongFalsely : Prop := sealTagsRow.holds Try.pinned (OpenSpec.ofChange sealTagsWrong)

/-- 'kymographlaw05.SealOpens': WHATEVER THE INPUT: true; the input reads as it did. -/
def sealOpensSpec : ChangeSpec := { name := "sealOpens", fn := fun _ => fun
  | [d1, d2, d3] => { results := [.lit (.bool true)], args := [d1, d2, d3] }
  | _ => none }
def sealOpensRow : OpenClaim := { program := "ytiedobphjjbooaa", sum := "cca0accd118a9516a2b173649e1df66196f245efbaf904cf49519b7447c6b0e3", func := "kymograph/kymographlaw05.SealOpens", spec := "sealOpens", apart := false }
def SealOpensSaid : Prop := sealOpensRow.holds Try.pinned (OpenSpec.ofChange sealOpensSpec)

/-- ITS FALSE NEIGHBOUR: 'it returns false'. Refute it at one input. -/
def sealOpensWrong : ChangeSpec := { name := "sealOpens", fn := fun _ => fun
  | [d1, d2, d3] => { results := [.lit (.bool false)], args := [d1, d2, d3] }
  | _ => none }
def SealOpensWrongFalsely : Prop := sealOpensRow.holds Try.pinned (OpenSpec.ofChange sealOpensWrong)

/-- 'kymographlaw05.SealBack': WHATEVER THE INPUT: true; the input reads as it did. -/
def sealBackSpec : ChangeSpec := { name := "sealBack", fn := fun _ => fun
  | [d1, d2, d3, d4] => { results := [.lit (.bool true)], args := [d1, d2, d3, d4] }
  | _ => none }
def sealBackRow : OpenClaim := { program := "ytiedobphjjbooaa", sum := "cca0accd118a9516a2b173649e1df66196f245efbaf904cf49519b7447c6b0e3", func := "kymograph/kymographlaw05.SealBack", spec := "sealBack", apart := false }
def SealBackSaid : Prop := sealBackRow.holds Try.pinned (OpenSpec.ofChange sealBackSpec)

/-- ITS FALSE NEIGHBOUR: 'it returns false'. Refute it at one input. -/
def sealBackWrong : ChangeSpec := { name := "sealBack", fn := fun _ => fun
  | [d1, d2, d3, d4] => { results := [.lit (.bool false)], args := [d1, d2, d3, d4] }
  | _ => none }
def SealBackWrongFalsely : Prop := sealBackRow.holds Try.pinned (OpenSpec.ofChange sealBackWrong)

/-- 'kymographlaw05.SealTurned': WHATEVER THE INPUT: true; the input reads as it did. -/
def sealTurnedSpec : ChangeSpec := { name := "sealTurned", fn := fun _ => fun
  | [d1, d2, d3, d4, d5] => { results := [.lit (.bool true)], args := [d1, d2, d3, d4, d5] }
  | _ => none }
def sealTurnedRow : OpenClaim := { program := "ytiedobphjjbooaa", sum := "cca0accd118a9516a2b173649e1df66196f245efbaf904cf49519b7447c6b0e3", func := "kymograph/kymographlaw05.SealTurned", spec := "sealTurned", apart := false }
def SealTurnedSaid : Prop := sealTurnedRow.holds Try.pinned (OpenSpec.ofChange sealTurnedSpec)

/-- ITS FALSE NEIGHBOUR: 'it returns false'. Refute it at one input. -/
def sealTurnedWrong : ChangeSpec := { name := "sealTurned", fn := fun _ => fun
  | [d1, d2, d3, d4, d5] => { results := [.lit (.bool false)], args := [d1, d2, d3, d4, d5] }
  | _ => none }
def SealTurnedWrongFalsely : Prop := sealTurnedRow.holds Try.pinned (OpenSpec.ofChange sealTurnedWrong)

/-- 'kymographlaw05.SealSides': WHATEVER THE INPUT: true; the input reads as it did. -/
def sealSidesSpec : ChangeSpec := { name := "sealSides", fn := fun _ => fun
  | [d1, d2, d3] => { results := [.lit (.bool true)], args := [d1, d2, d3] }
  | _ => none }
def sealSidesRow : OpenClaim := { program := "ytiedobphjjbooaa", sum := "cca0accd118a9516a2b173649e1df66196f245efbaf904cf49519b7447c6b0e3", func := "kymograph/kymographlaw05.SealSides", spec := "sealSides", apart := false }
def SealSidesSaid : Prop := sealSidesRow.holds Try.pinned (OpenSpec.ofChange sealSidesSpec)

/-- ITS FALSE NEIGHBOUR: 'it returns false'. Refute it at one input. -/
def sealSidesWrong : ChangeSpec := { name := "sealSides", fn := fun _ => fun
  | [d1, d2, d3] => { results := [.lit (.bool false)], args := [d1, d2, d3] }
  | _ => none }
def SealSidesWrongFalsely : Prop := sealSidesRow.holds Try.pinned (OpenSpec.ofChange sealSidesWrong)

/- THE SECOND FORM. 'bulk': how many values and letters a reading holds, each counted each time it is reached (what is shared counts as often as it is met; a slice's spare places count too). A statement '..UptoSaid' is the law's where the arguments, and the package variables that the reading takes, are together of bulk at most 1048576: NARROWER than '..Said'. Prove '..Said' where nothing that the law and all that it calls make is longer than what came in: it says more and counts as full. Else prove '..UptoSaid'. A law counts once. -/
mutual
def uptoBulk {H : Type} : DataW H → Nat
  | .lit (.string bytes) => bytes.length + 1
  | .lit _ => 1
  | .nil => 1
  | .ptr d => uptoBulk d + 1
  | .slice elems spare => uptoBulkAll elems + uptoBulkAll spare + 1
  | .agg parts => uptoBulkAll parts + 1
  | .iface _ d => uptoBulk d + 1
  | .map entries => uptoBulkEntries entries + 1
  | .held _ => 1
def uptoBulkAll {H : Type} : List (DataW H) → Nat
  | [] => 0
  | d :: r => uptoBulk d + uptoBulkAll r
def uptoBulkEntries {H : Type} : List (Lit × DataW H) → Nat
  | [] => 0
  | x :: r => uptoBulkEntry x + uptoBulkEntries r
def uptoBulkEntry {H : Type} : Lit × DataW H → Nat
  | (.string bytes, d) => bytes.length + uptoBulk d + 1
  | (_, d) => uptoBulk d + 1
 end
def uptoSmall : (H : Type) → List (DataW H) → Bool := fun _ ds => decide (uptoBulkAll ds ≤ 1048576)
def OpenSpec.upto (s : _root_.Go.ChangeSpec) : _root_.Go.OpenSpec := { _root_.Go.OpenSpec.ofChange s with cond := some uptoSmall }

/-- 'kymographlaw05.SealTags', WHERE WHAT IT READS IS OF BULK AT MOST 1048576: true; the input reads as it did. -/
def sealTagsUptoRow : OpenClaim := { program := "ytiedobphjjbooaa", sum := "cca0accd118a9516a2b173649e1df66196f245efbaf904cf49519b7447c6b0e3", func := "kymograph/kymographlaw05.SealTags", spec := "sealTags", apart := false, narrowed := true }
def SealTagsUptoSaid : Prop := sealTagsUptoRow.holds Try.pinned (OpenSpec.upto sealTagsSpec)

/-- 'kymographlaw05.SealOpens', WHERE WHAT IT READS IS OF BULK AT MOST 1048576: true; the input reads as it did. -/
def sealOpensUptoRow : OpenClaim := { program := "ytiedobphjjbooaa", sum := "cca0accd118a9516a2b173649e1df66196f245efbaf904cf49519b7447c6b0e3", func := "kymograph/kymographlaw05.SealOpens", spec := "sealOpens", apart := false, narrowed := true }
def SealOpensUptoSaid : Prop := sealOpensUptoRow.holds Try.pinned (OpenSpec.upto sealOpensSpec)

/-- 'kymographlaw05.SealBack', WHERE WHAT IT READS IS OF BULK AT MOST 1048576: true; the input reads as it did. -/
def sealBackUptoRow : OpenClaim := { program := "ytiedobphjjbooaa", sum := "cca0accd118a9516a2b173649e1df66196f245efbaf904cf49519b7447c6b0e3", func := "kymograph/kymographlaw05.SealBack", spec := "sealBack", apart := false, narrowed := true }
def SealBackUptoSaid : Prop := sealBackUptoRow.holds Try.pinned (OpenSpec.upto sealBackSpec)

/-- 'kymographlaw05.SealTurned', WHERE WHAT IT READS IS OF BULK AT MOST 1048576: true; the input reads as it did. -/
def sealTurnedUptoRow : OpenClaim := { program := "ytiedobphjjbooaa", sum := "cca0accd118a9516a2b173649e1df66196f245efbaf904cf49519b7447c6b0e3", func := "kymograph/kymographlaw05.SealTurned", spec := "sealTurned", apart := false, narrowed := true }
def SealTurnedUptoSaid : Prop := sealTurnedUptoRow.holds Try.pinned (OpenSpec.upto sealTurnedSpec)

/-- 'kymographlaw05.SealSides', WHERE WHAT IT READS IS OF BULK AT MOST 1048576: true; the input reads as it did. -/
def sealSidesUptoRow : OpenClaim := { program := "ytiedobphjjbooaa", sum := "cca0accd118a9516a2b173649e1df66196f245efbaf904cf49519b7447c6b0e3", func := "kymograph/kymographlaw05.SealSides", spec := "sealSides", apart := false, narrowed := true }
def SealSidesUptoSaid : Prop := sealSidesUptoRow.holds Try.pinned (OpenSpec.upto sealSidesSpec)

end Rows
end Go.Proofs.Ytiedobphjjbooaa

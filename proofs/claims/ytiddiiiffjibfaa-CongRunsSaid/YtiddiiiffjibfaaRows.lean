/-
  No cell of these rows narrows 'for every input' (looked for: loops, veiled, ifaces, maps, wideKeys, modest, calm, conditions, laid).
  DERIVED. THE GIVEN ROWS OF THIS SEAT. 7 by the template 'for every input the law returns true; each argument reads behind the call as it read before'; 0 by the template 'total and deterministic' (their statements: YtiddiiiffjibfaaTotals.lean).
  GIVEN WITH THE SEED: the statements are not yours to turn. If you find one false, say at which input.
  Laid BY PROGRAM, IN A SANDBOX (cutbox-rows.mjs): the forced cells as the released guide's own fill.sh prints them over the translation a3249d4a71770206… (all of the seat's roots in one cut). By AI agents, Wed Nov 11 2026. No macro, syntax, notation, axiom, sorry.
-/
import Derived.Test.YtiddiiiffjibfaaChecked
import GoSem.Claim
import GoSem.ClaimJoined
import GoSem.ClaimMapViews
import Derived.JoinedTies
import Derived.KernelRfl
namespace Go.Proofs.Ytiddiiiffjibfaa
/- THE CELL 'sum', in the pinned program and in every row, IS THE sha256 OF THE DUMP (.gsa) THAT YtiddiiiffjibfaaProg.lean LOADS. Nothing in Lean hashes anything: it is a label: what it is worth is what the hold of that sum in a sandbox is worth. -/
noncomputable def Try.pinned : Pinned := { name := "ytiddiiiffjibfaa", sum := "a3249d4a717702063972ae630917d665ee3bf4a97fc6e571289af978053e6ec4", checked := Try.checked }
namespace Rows
def none {H : Type} : Left H := { results := [], args := [] }

/-- 'kymographlaw11.CongTells': WHATEVER THE INPUT: true; the input reads as it did. -/
def congTellsSpec : ChangeSpec := { name := "congTells", fn := fun _ => fun
  | [d1, d2, d3, d4] => { results := [.lit (.bool true)], args := [d1, d2, d3, d4] }
  | _ => none }
def congTellsRow : OpenClaim := { program := "ytiddiiiffjibfaa", sum := "a3249d4a717702063972ae630917d665ee3bf4a97fc6e571289af978053e6ec4", func := "kymograph/kymographlaw11.CongTells", spec := "congTells", apart := false }
def CongTellsSaid : Prop := congTellsRow.holds Try.pinned (OpenSpec.ofChange congTellsSpec)

/-- ITS FALSE NEIGHBOUR: 'it returns false'. Refute it at one input. -/
def congTellsWrong : ChangeSpec := { name := "congTells", fn := fun _ => fun
  | [d1, d2, d3, d4] => { results := [.lit (.bool false)], args := [d1, d2, d3, d4] }
  | _ => none }
def CongTellsWrongFalsely : Prop := congTellsRow.holds Try.pinned (OpenSpec.ofChange congTellsWrong)

/-- 'kymographlaw11.CongRuns': WHATEVER THE INPUT: true; the input reads as it did. -/
def congRunsSpec : ChangeSpec := { name := "congRuns", fn := fun _ => fun
  | [d] => { results := [.lit (.bool true)], args := [d] }
  | _ => none }
def congRunsRow : OpenClaim := { program := "ytiddiiiffjibfaa", sum := "a3249d4a717702063972ae630917d665ee3bf4a97fc6e571289af978053e6ec4", func := "kymograph/kymographlaw11.CongRuns", spec := "congRuns", apart := false }
def CongRunsSaid : Prop := congRunsRow.holds Try.pinned (OpenSpec.ofChange congRunsSpec)

/-- ITS FALSE NEIGHBOUR: 'it returns false'. Refute it at one input. -/
def congRunsWrong : ChangeSpec := { name := "congRuns", fn := fun _ => fun
  | [d] => { results := [.lit (.bool false)], args := [d] }
  | _ => none }
def CongRunsWrongFalsely : Prop := congRunsRow.holds Try.pinned (OpenSpec.ofChange congRunsWrong)

/-- 'kymographlaw11.CongHolds': WHATEVER THE INPUT: true; the input reads as it did. -/
def congHoldsSpec : ChangeSpec := { name := "congHolds", fn := fun _ => fun
  | [d] => { results := [.lit (.bool true)], args := [d] }
  | _ => none }
def congHoldsRow : OpenClaim := { program := "ytiddiiiffjibfaa", sum := "a3249d4a717702063972ae630917d665ee3bf4a97fc6e571289af978053e6ec4", func := "kymograph/kymographlaw11.CongHolds", spec := "congHolds", apart := false }
def CongHoldsSaid : Prop := congHoldsRow.holds Try.pinned (OpenSpec.ofChange congHoldsSpec)

/-- ITS FALSE NEIGHBOUR: 'it returns false'. Refute it at one input. -/
def congHoldsWrong : ChangeSpec := { name := "congHolds", fn := fun _ => fun
  | [d] => { results := [.lit (.bool false)], args := [d] }
  | _ => none }
def CongHoldsWrongFalsely : Prop := congHoldsRow.holds Try.pinned (OpenSpec.ofChange congHoldsWrong)

/-- 'kymographlaw11.CongOnce': WHATEVER THE INPUT: true; the input reads as it did. -/
def congOnceSpec : ChangeSpec := { name := "congOnce", fn := fun _ => fun
  | [d1, d2, d3, d4] => { results := [.lit (.bool true)], args := [d1, d2, d3, d4] }
  | _ => none }
def congOnceRow : OpenClaim := { program := "ytiddiiiffjibfaa", sum := "a3249d4a717702063972ae630917d665ee3bf4a97fc6e571289af978053e6ec4", func := "kymograph/kymographlaw11.CongOnce", spec := "congOnce", apart := false }
def CongOnceSaid : Prop := congOnceRow.holds Try.pinned (OpenSpec.ofChange congOnceSpec)

/-- ITS FALSE NEIGHBOUR: 'it returns false'. Refute it at one input. -/
def congOnceWrong : ChangeSpec := { name := "congOnce", fn := fun _ => fun
  | [d1, d2, d3, d4] => { results := [.lit (.bool false)], args := [d1, d2, d3, d4] }
  | _ => none }
def CongOnceWrongFalsely : Prop := congOnceRow.holds Try.pinned (OpenSpec.ofChange congOnceWrong)

/-- 'kymographlaw11.CongSlow': WHATEVER THE INPUT: true; the input reads as it did. -/
def congSlowSpec : ChangeSpec := { name := "congSlow", fn := fun _ => fun
  | [d] => { results := [.lit (.bool true)], args := [d] }
  | _ => none }
def congSlowRow : OpenClaim := { program := "ytiddiiiffjibfaa", sum := "a3249d4a717702063972ae630917d665ee3bf4a97fc6e571289af978053e6ec4", func := "kymograph/kymographlaw11.CongSlow", spec := "congSlow", apart := false }
def CongSlowSaid : Prop := congSlowRow.holds Try.pinned (OpenSpec.ofChange congSlowSpec)

/-- ITS FALSE NEIGHBOUR: 'it returns false'. Refute it at one input. -/
def congSlowWrong : ChangeSpec := { name := "congSlow", fn := fun _ => fun
  | [d] => { results := [.lit (.bool false)], args := [d] }
  | _ => none }
def CongSlowWrongFalsely : Prop := congSlowRow.holds Try.pinned (OpenSpec.ofChange congSlowWrong)

/-- 'kymographlaw11.CongHalves': WHATEVER THE INPUT: true; the input reads as it did. -/
def congHalvesSpec : ChangeSpec := { name := "congHalves", fn := fun _ => fun
  | [d1, d2, d3, d4] => { results := [.lit (.bool true)], args := [d1, d2, d3, d4] }
  | _ => none }
def congHalvesRow : OpenClaim := { program := "ytiddiiiffjibfaa", sum := "a3249d4a717702063972ae630917d665ee3bf4a97fc6e571289af978053e6ec4", func := "kymograph/kymographlaw11.CongHalves", spec := "congHalves", apart := false }
def CongHalvesSaid : Prop := congHalvesRow.holds Try.pinned (OpenSpec.ofChange congHalvesSpec)

/-- ITS FALSE NEIGHBOUR: 'it returns false'. Refute it at one input. -/
def congHalvesWrong : ChangeSpec := { name := "congHalves", fn := fun _ => fun
  | [d1, d2, d3, d4] => { results := [.lit (.bool false)], args := [d1, d2, d3, d4] }
  | _ => none }
def CongHalvesWrongFalsely : Prop := congHalvesRow.holds Try.pinned (OpenSpec.ofChange congHalvesWrong)

/-- 'kymographlaw11.CongQuick': WHATEVER THE INPUT: true; the input reads as it did. -/
def congQuickSpec : ChangeSpec := { name := "congQuick", fn := fun _ => fun
  | [d] => { results := [.lit (.bool true)], args := [d] }
  | _ => none }
def congQuickRow : OpenClaim := { program := "ytiddiiiffjibfaa", sum := "a3249d4a717702063972ae630917d665ee3bf4a97fc6e571289af978053e6ec4", func := "kymograph/kymographlaw11.CongQuick", spec := "congQuick", apart := false }
def CongQuickSaid : Prop := congQuickRow.holds Try.pinned (OpenSpec.ofChange congQuickSpec)

/-- ITS FALSE NEIGHBOUR: 'it returns false'. Refute it at one input. -/
def congQuickWrong : ChangeSpec := { name := "congQuick", fn := fun _ => fun
  | [d] => { results := [.lit (.bool false)], args := [d] }
  | _ => none }
def CongQuickWrongFalsely : Prop := congQuickRow.holds Try.pinned (OpenSpec.ofChange congQuickWrong)

/- THE SECOND FORM. 'bulk': how many values and letters a reading holds, each counted each time it is reached (what is shared counts as often as it is met; a slice's spare places count too). A statement '..UptoSaid' is the law's where the arguments, and the package variables that the reading takes, are together of bulk at most 1048576: NARROWER than '..Said'. Prove '..Said' where nothing that the law and all that it calls make is longer than what came in: it says more and counts as full. Else prove '..UptoSaid'. A law counts once. -/
mutual
def uptoBulk {H : Type} : DataW H → Nat
  | .lit (.string bytes) => bytes.length + 1
  | .lit _ => 1
  | .nil => 1
  | .ptr d => uptoBulk d + 1
  | .slice elems spare => uptoBulkAll elems + uptoBulkAll spare + 1
  | .agg parts => uptoBulkAll parts + 1
  | .iface _ d => uptoBulk d + 1
  | .map entries => uptoBulkEntries entries + 1
  | .held _ => 1
def uptoBulkAll {H : Type} : List (DataW H) → Nat
  | [] => 0
  | d :: r => uptoBulk d + uptoBulkAll r
def uptoBulkEntries {H : Type} : List (Lit × DataW H) → Nat
  | [] => 0
  | x :: r => uptoBulkEntry x + uptoBulkEntries r
def uptoBulkEntry {H : Type} : Lit × DataW H → Nat
  | (.string bytes, d) => bytes.length + uptoBulk d + 1
  | (_, d) => uptoBulk d + 1
 end
def uptoSmall : (H : Type) → List (DataW H) → Bool := fun _ ds => decide (uptoBulkAll ds ≤ 1048576)
def OpenSpec.upto (s : _root_.Go.ChangeSpec) : _root_.Go.OpenSpec := { _root_.Go.OpenSpec.ofChange s with cond := some uptoSmall }

/-- 'kymographlaw11.CongTells', WHERE WHAT IT READS IS OF BULK AT MOST 1048576: true; the input reads as it did. -/
def congTellsUptoRow : OpenClaim := { program := "ytiddiiiffjibfaa", sum := "a3249d4a717702063972ae630917d665ee3bf4a97fc6e571289af978053e6ec4", func := "kymograph/kymographlaw11.CongTells", spec := "congTells", apart := false, narrowed := true }
def CongTellsUptoSaid : Prop := congTellsUptoRow.holds Try.pinned (OpenSpec.upto congTellsSpec)

/-- 'kymographlaw11.CongRuns', WHERE WHAT IT READS IS OF BULK AT MOST 1048576: true; the input reads as it did. -/
def congRunsUptoRow : OpenClaim := { program := "ytiddiiiffjibfaa", sum := "a3249d4a717702063972ae630917d665ee3bf4a97fc6e571289af978053e6ec4", func := "kymograph/kymographlaw11.CongRuns", spec := "congRuns", apart := false, narrowed := true }
def CongRunsUptoSaid : Prop := congRunsUptoRow.holds Try.pinned (OpenSpec.upto congRunsSpec)

/-- 'kymographlaw11.CongHolds', WHERE WHAT IT READS IS OF BULK AT MOST 1048576: true; the input reads as it did. -/
def congHoldsUptoRow : OpenClaim := { program := "ytiddiiiffjibfaa", sum := "a3249d4a717702063972ae630917d665ee3bf4a97fc6e571289af978053e6ec4", func := "kymograph/kymographlaw11.CongHolds", spec := "congHolds", apart := false, narrowed := true }
def CongHoldsUptoSaid : Prop := congHoldsUptoRow.holds Try.pinned (OpenSpec.upto congHoldsSpec)

/-- 'kymographlaw11.CongOnce', WHERE WHAT IT READS IS OF BULK AT MOST 1048576: true; the input reads as it did. -/
def congOnceUptoRow : OpenClaim := { program := "ytiddiiiffjibfaa", sum := "a3249d4a717702063972ae630917d665ee3bf4a97fc6e571289af978053e6ec4", func := "kymograph/kymographlaw11.CongOnce", spec := "congOnce", apart := false, narrowed := true }
def CongOnceUptoSaid : Prop := congOnceUptoRow.holds Try.pinned (OpenSpec.upto congOnceSpec)

/-- 'kymographlaw11.CongSlow', WHERE WHAT IT READS IS OF BULK AT MOST 1048576: true; the input reads as it did. -/
def congSlowUptoRow : OpenClaim := { program := "ytiddiiiffjibfaa", sum := "a3249d4a717702063972ae630917d665ee3bf4a97fc6e571289af978053e6ec4", func := "kymograph/kymographlaw11.CongSlow", spec := "congSlow", apart := false, narrowed := true }
def CongSlowUptoSaid : Prop := congSlowUptoRow.holds Try.pinned (OpenSpec.upto congSlowSpec)

/-- 'kymographlaw11.CongHalves', WHERE WHAT IT READS IS OF BULK AT MOST 1048576: true; the input reads as it did. -/
def congHalvesUptoRow : OpenClaim := { program := "ytiddiiiffjibfaa", sum := "a3249d4a717702063972ae630917d665ee3bf4a97fc6e571289af978053e6ec4", func := "kymograph/kymographlaw11.CongHalves", spec := "congHalves", apart := false, narrowed := true }
def CongHalvesUptoSaid : Prop := congHalvesUptoRow.holds Try.pinned (OpenSpec.upto congHalvesSpec)

/-- 'kymographlaw11.CongQuick', WHERE WHAT IT READS IS OF BULK AT MOST 1048576: true; the input reads as it did. -/
def congQuickUptoRow : OpenClaim := { program := "ytiddiiiffjibfaa", sum := "a3249d4a717702063972ae630917d665ee3bf4a97fc6e571289af978053e6ec4", func := "kymograph/kymographlaw11.CongQuick", spec := "congQuick", apart := false, narrowed := true }
def CongQuickUptoSaid : Prop := congQuickUptoRow.holds Try.pinned (OpenSpec.upto congQuickSpec)

end Rows
end Go.Proofs.Ytiddiiiffjibfaa

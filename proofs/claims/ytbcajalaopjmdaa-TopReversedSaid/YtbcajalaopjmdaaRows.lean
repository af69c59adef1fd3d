/-
  No cell of these rows narrows 'for every input' (looked for: loops, veiled, ifaces, maps, wideKeys, modest, calm, conditions, laid).
  DERIVED. THE GIVEN ROWS OF THIS SEAT. 13 by the template 'for every input the law returns true; each argument reads behind the call as it read before'; 0 by the template 'total and deterministic' (their statements: YtbcajalaopjmdaaTotals.lean).
  GIVEN WITH THE SEED: the statements are not yours to turn. If you find one false, say at which input.
  Laid BY PROGRAM, IN A SANDBOX (cutbox-rows.mjs): the forced cells as the released guide's own fill.sh prints them over the translation b63b9a41c2da71e9… (all of the seat's roots in one cut). By AI agents, Wed Nov 11 2026. No macro, syntax, notation, axiom, sorry.
-/
import Derived.Test.YtbcajalaopjmdaaChecked
import GoSem.Claim
import GoSem.ClaimJoined
import GoSem.ClaimMapViews
import Derived.JoinedTies
import Derived.KernelRfl
namespace Go.Proofs.Ytbcajalaopjmdaa
/- THE CELL 'sum', in the pinned program and in every row, IS THE sha256 OF THE DUMP (.gsa) THAT YtbcajalaopjmdaaProg.lean LOADS. Nothing in Lean hashes anything: it is a label: what it is worth is what the hold of that sum in a sandbox is worth. -/
noncomputable def Try.pinned : Pinned := { name := "ytbcajalaopjmdaa", sum := "b63b9a41c2da71e92d9f64a81e703191a18323dbde4429a357cb362d9cf63289", checked := Try.checked }
namespace Rows
def none {H : Type} : Left H := { results := [], args := [] }

/-- 'slipstreamlaw02.GridPuts': WHATEVER THE INPUT: true; the input reads as it did. -/
def gridPutsSpec : ChangeSpec := { name := "gridPuts", fn := fun _ => fun
  | [d1, d2, d3] => { results := [.lit (.bool true)], args := [d1, d2, d3] }
  | _ => none }
def gridPutsRow : OpenClaim := { program := "ytbcajalaopjmdaa", sum := "b63b9a41c2da71e92d9f64a81e703191a18323dbde4429a357cb362d9cf63289", func := "slipstream/slipstreamlaw02.GridPuts", spec := "gridPuts", unfollowed := true, recurses := true, apart := false }
def GridPutsSaid : Prop := gridPutsRow.holds Try.pinned (OpenSpec.ofChange gridPutsSpec)

/-- ITS FALSE NEIGHBOUR: 'it returns false'. Refute it at one input. -/
def gridPutsWrong : ChangeSpec := { name := "gridPuts", fn := fun _ => fun
  | [d1, d2, d3] => { results := [.lit (.bool false)], args := [d1, d2, d3] }
  | _ => none }
def GridPutsWrongFalsely : Prop := gridPutsRow.holds Try.pinned (OpenSpec.ofChange gridPutsWrong)

/-- 'slipstreamlaw02.GridStreams': WHATEVER THE INPUT: true; the input reads as it did. -/
def gridStreamsSpec : ChangeSpec := { name := "gridStreams", fn := fun _ => fun
  | [d] => { results := [.lit (.bool true)], args := [d] }
  | _ => none }
def gridStreamsRow : OpenClaim := { program := "ytbcajalaopjmdaa", sum := "b63b9a41c2da71e92d9f64a81e703191a18323dbde4429a357cb362d9cf63289", func := "slipstream/slipstreamlaw02.GridStreams", spec := "gridStreams", unfollowed := true, recurses := true, apart := false }
def GridStreamsSaid : Prop := gridStreamsRow.holds Try.pinned (OpenSpec.ofChange gridStreamsSpec)

/-- ITS FALSE NEIGHBOUR: 'it returns false'. Refute it at one input. -/
def gridStreamsWrong : ChangeSpec := { name := "gridStreams", fn := fun _ => fun
  | [d] => { results := [.lit (.bool false)], args := [d] }
  | _ => none }
def GridStreamsWrongFalsely : Prop := gridStreamsRow.holds Try.pinned (OpenSpec.ofChange gridStreamsWrong)

/-- 'slipstreamlaw02.GridAdds': WHATEVER THE INPUT: true; the input reads as it did. -/
def gridAddsSpec : ChangeSpec := { name := "gridAdds", fn := fun _ => fun
  | [d1, d2] => { results := [.lit (.bool true)], args := [d1, d2] }
  | _ => none }
def gridAddsRow : OpenClaim := { program := "ytbcajalaopjmdaa", sum := "b63b9a41c2da71e92d9f64a81e703191a18323dbde4429a357cb362d9cf63289", func := "slipstream/slipstreamlaw02.GridAdds", spec := "gridAdds", unfollowed := true, recurses := true, apart := false }
def GridAddsSaid : Prop := gridAddsRow.holds Try.pinned (OpenSpec.ofChange gridAddsSpec)

/-- ITS FALSE NEIGHBOUR: 'it returns false'. Refute it at one input. -/
def gridAddsWrong : ChangeSpec := { name := "gridAdds", fn := fun _ => fun
  | [d1, d2] => { results := [.lit (.bool false)], args := [d1, d2] }
  | _ => none }
def GridAddsWrongFalsely : Prop := gridAddsRow.holds Try.pinned (OpenSpec.ofChange gridAddsWrong)

/-- 'slipstreamlaw02.GridMoves': WHATEVER THE INPUT: true; the input reads as it did. -/
def gridMovesSpec : ChangeSpec := { name := "gridMoves", fn := fun _ => fun
  | [d1, d2, d3] => { results := [.lit (.bool true)], args := [d1, d2, d3] }
  | _ => none }
def gridMovesRow : OpenClaim := { program := "ytbcajalaopjmdaa", sum := "b63b9a41c2da71e92d9f64a81e703191a18323dbde4429a357cb362d9cf63289", func := "slipstream/slipstreamlaw02.GridMoves", spec := "gridMoves", unfollowed := true, recurses := true, apart := false }
def GridMovesSaid : Prop := gridMovesRow.holds Try.pinned (OpenSpec.ofChange gridMovesSpec)

/-- ITS FALSE NEIGHBOUR: 'it returns false'. Refute it at one input. -/
def gridMovesWrong : ChangeSpec := { name := "gridMoves", fn := fun _ => fun
  | [d1, d2, d3] => { results := [.lit (.bool false)], args := [d1, d2, d3] }
  | _ => none }
def GridMovesWrongFalsely : Prop := gridMovesRow.holds Try.pinned (OpenSpec.ofChange gridMovesWrong)

/-- 'slipstreamlaw02.GridPeriod': WHATEVER THE INPUT: true; the input reads as it did. -/
def gridPeriodSpec : ChangeSpec := { name := "gridPeriod", fn := fun _ => fun
  | [d1, d2, d3] => { results := [.lit (.bool true)], args := [d1, d2, d3] }
  | _ => none }
def gridPeriodRow : OpenClaim := { program := "ytbcajalaopjmdaa", sum := "b63b9a41c2da71e92d9f64a81e703191a18323dbde4429a357cb362d9cf63289", func := "slipstream/slipstreamlaw02.GridPeriod", spec := "gridPeriod", unfollowed := true, recurses := true, apart := false }
def GridPeriodSaid : Prop := gridPeriodRow.holds Try.pinned (OpenSpec.ofChange gridPeriodSpec)

/-- ITS FALSE NEIGHBOUR: 'it returns false'. Refute it at one input. -/
def gridPeriodWrong : ChangeSpec := { name := "gridPeriod", fn := fun _ => fun
  | [d1, d2, d3] => { results := [.lit (.bool false)], args := [d1, d2, d3] }
  | _ => none }
def GridPeriodWrongFalsely : Prop := gridPeriodRow.holds Try.pinned (OpenSpec.ofChange gridPeriodWrong)

/-- 'slipstreamlaw02.GridRuns': WHATEVER THE INPUT: true; the input reads as it did. -/
def gridRunsSpec : ChangeSpec := { name := "gridRuns", fn := fun _ => fun
  | [d1, d2, d3] => { results := [.lit (.bool true)], args := [d1, d2, d3] }
  | _ => none }
def gridRunsRow : OpenClaim := { program := "ytbcajalaopjmdaa", sum := "b63b9a41c2da71e92d9f64a81e703191a18323dbde4429a357cb362d9cf63289", func := "slipstream/slipstreamlaw02.GridRuns", spec := "gridRuns", unfollowed := true, recurses := true, apart := false }
def GridRunsSaid : Prop := gridRunsRow.holds Try.pinned (OpenSpec.ofChange gridRunsSpec)

/-- ITS FALSE NEIGHBOUR: 'it returns false'. Refute it at one input. -/
def gridRunsWrong : ChangeSpec := { name := "gridRuns", fn := fun _ => fun
  | [d1, d2, d3] => { results := [.lit (.bool false)], args := [d1, d2, d3] }
  | _ => none }
def GridRunsWrongFalsely : Prop := gridRunsRow.holds Try.pinned (OpenSpec.ofChange gridRunsWrong)

/-- 'slipstreamlaw02.GridParts': WHATEVER THE INPUT: true; the input reads as it did. -/
def gridPartsSpec : ChangeSpec := { name := "gridParts", fn := fun _ => fun
  | [d1, d2, d3] => { results := [.lit (.bool true)], args := [d1, d2, d3] }
  | _ => none }
def gridPartsRow : OpenClaim := { program := "ytbcajalaopjmdaa", sum := "b63b9a41c2da71e92d9f64a81e703191a18323dbde4429a357cb362d9cf63289", func := "slipstream/slipstreamlaw02.GridParts", spec := "gridParts", unfollowed := true, recurses := true, apart := false }
def GridPartsSaid : Prop := gridPartsRow.holds Try.pinned (OpenSpec.ofChange gridPartsSpec)

/-- ITS FALSE NEIGHBOUR: 'it returns false'. Refute it at one input. -/
def gridPartsWrong : ChangeSpec := { name := "gridParts", fn := fun _ => fun
  | [d1, d2, d3] => { results := [.lit (.bool false)], args := [d1, d2, d3] }
  | _ => none }
def GridPartsWrongFalsely : Prop := gridPartsRow.holds Try.pinned (OpenSpec.ofChange gridPartsWrong)

/-- 'slipstreamlaw02.GridSteps': WHATEVER THE INPUT: true; the input reads as it did. -/
def gridStepsSpec : ChangeSpec := { name := "gridSteps", fn := fun _ => fun
  | [d1, d2, d3] => { results := [.lit (.bool true)], args := [d1, d2, d3] }
  | _ => none }
def gridStepsRow : OpenClaim := { program := "ytbcajalaopjmdaa", sum := "b63b9a41c2da71e92d9f64a81e703191a18323dbde4429a357cb362d9cf63289", func := "slipstream/slipstreamlaw02.GridSteps", spec := "gridSteps", unfollowed := true, recurses := true, apart := false }
def GridStepsSaid : Prop := gridStepsRow.holds Try.pinned (OpenSpec.ofChange gridStepsSpec)

/-- ITS FALSE NEIGHBOUR: 'it returns false'. Refute it at one input. -/
def gridStepsWrong : ChangeSpec := { name := "gridSteps", fn := fun _ => fun
  | [d1, d2, d3] => { results := [.lit (.bool false)], args := [d1, d2, d3] }
  | _ => none }
def GridStepsWrongFalsely : Prop := gridStepsRow.holds Try.pinned (OpenSpec.ofChange gridStepsWrong)

/-- 'slipstreamlaw02.GridSymmetric': WHATEVER THE INPUT: true; the input reads as it did. -/
def gridSymmetricSpec : ChangeSpec := { name := "gridSymmetric", fn := fun _ => fun
  | [d1, d2, d3] => { results := [.lit (.bool true)], args := [d1, d2, d3] }
  | _ => none }
def gridSymmetricRow : OpenClaim := { program := "ytbcajalaopjmdaa", sum := "b63b9a41c2da71e92d9f64a81e703191a18323dbde4429a357cb362d9cf63289", func := "slipstream/slipstreamlaw02.GridSymmetric", spec := "gridSymmetric", unfollowed := true, recurses := true, apart := false }
def GridSymmetricSaid : Prop := gridSymmetricRow.holds Try.pinned (OpenSpec.ofChange gridSymmetricSpec)

/-- ITS FALSE NEIGHBOUR: 'it returns false'. Refute it at one input. -/
def gridSymmetricWrong : ChangeSpec := { name := "gridSymmetric", fn := fun _ => fun
  | [d1, d2, d3] => { results := [.lit (.bool false)], args := [d1, d2, d3] }
  | _ => none }
def GridSymmetricWrongFalsely : Prop := gridSymmetricRow.holds Try.pinned (OpenSpec.ofChange gridSymmetricWrong)

/-- 'slipstreamlaw02.GridKept': WHATEVER THE INPUT: true; the input reads as it did. -/
def gridKeptSpec : ChangeSpec := { name := "gridKept", fn := fun _ => fun
  | [d1, d2, d3] => { results := [.lit (.bool true)], args := [d1, d2, d3] }
  | _ => none }
def gridKeptRow : OpenClaim := { program := "ytbcajalaopjmdaa", sum := "b63b9a41c2da71e92d9f64a81e703191a18323dbde4429a357cb362d9cf63289", func := "slipstream/slipstreamlaw02.GridKept", spec := "gridKept", unfollowed := true, recurses := true, apart := false }
def GridKeptSaid : Prop := gridKeptRow.holds Try.pinned (OpenSpec.ofChange gridKeptSpec)

/-- ITS FALSE NEIGHBOUR: 'it returns false'. Refute it at one input. -/
def gridKeptWrong : ChangeSpec := { name := "gridKept", fn := fun _ => fun
  | [d1, d2, d3] => { results := [.lit (.bool false)], args := [d1, d2, d3] }
  | _ => none }
def GridKeptWrongFalsely : Prop := gridKeptRow.holds Try.pinned (OpenSpec.ofChange gridKeptWrong)

/-- 'slipstreamtop.TopReversed': WHATEVER THE INPUT: true; the input reads as it did. -/
def topReversedSpec : ChangeSpec := { name := "topReversed", fn := fun _ => fun
  | [d1, d2, d3] => { results := [.lit (.bool true)], args := [d1, d2, d3] }
  | _ => none }
def topReversedRow : OpenClaim := { program := "ytbcajalaopjmdaa", sum := "b63b9a41c2da71e92d9f64a81e703191a18323dbde4429a357cb362d9cf63289", func := "slipstream/slipstreamtop.TopReversed", spec := "topReversed", unfollowed := true, recurses := true, apart := false }
def TopReversedSaid : Prop := topReversedRow.holds Try.pinned (OpenSpec.ofChange topReversedSpec)

/-- ITS FALSE NEIGHBOUR: 'it returns false'. Refute it at one input. -/
def topReversedWrong : ChangeSpec := { name := "topReversed", fn := fun _ => fun
  | [d1, d2, d3] => { results := [.lit (.bool false)], args := [d1, d2, d3] }
  | _ => none }
def TopReversedWrongFalsely : Prop := topReversedRow.holds Try.pinned (OpenSpec.ofChange topReversedWrong)

/-- 'slipstreamtop.TopCells': WHATEVER THE INPUT: true; the input reads as it did. -/
def topCellsSpec : ChangeSpec := { name := "topCells", fn := fun _ => fun
  | [d1, d2, d3] => { results := [.lit (.bool true)], args := [d1, d2, d3] }
  | _ => none }
def topCellsRow : OpenClaim := { program := "ytbcajalaopjmdaa", sum := "b63b9a41c2da71e92d9f64a81e703191a18323dbde4429a357cb362d9cf63289", func := "slipstream/slipstreamtop.TopCells", spec := "topCells", unfollowed := true, recurses := true, apart := false }
def TopCellsSaid : Prop := topCellsRow.holds Try.pinned (OpenSpec.ofChange topCellsSpec)

/-- ITS FALSE NEIGHBOUR: 'it returns false'. Refute it at one input. -/
def topCellsWrong : ChangeSpec := { name := "topCells", fn := fun _ => fun
  | [d1, d2, d3] => { results := [.lit (.bool false)], args := [d1, d2, d3] }
  | _ => none }
def TopCellsWrongFalsely : Prop := topCellsRow.holds Try.pinned (OpenSpec.ofChange topCellsWrong)

/-- 'slipstreamtop.TopContinuity': WHATEVER THE INPUT: true; the input reads as it did. -/
def topContinuitySpec : ChangeSpec := { name := "topContinuity", fn := fun _ => fun
  | [d] => { results := [.lit (.bool true)], args := [d] }
  | _ => none }
def topContinuityRow : OpenClaim := { program := "ytbcajalaopjmdaa", sum := "b63b9a41c2da71e92d9f64a81e703191a18323dbde4429a357cb362d9cf63289", func := "slipstream/slipstreamtop.TopContinuity", spec := "topContinuity", unfollowed := true, recurses := true, apart := false }
def TopContinuitySaid : Prop := topContinuityRow.holds Try.pinned (OpenSpec.ofChange topContinuitySpec)

/-- ITS FALSE NEIGHBOUR: 'it returns false'. Refute it at one input. -/
def topContinuityWrong : ChangeSpec := { name := "topContinuity", fn := fun _ => fun
  | [d] => { results := [.lit (.bool false)], args := [d] }
  | _ => none }
def TopContinuityWrongFalsely : Prop := topContinuityRow.holds Try.pinned (OpenSpec.ofChange topContinuityWrong)

/- THE SECOND FORM. 'bulk': how many values and letters a reading holds, each counted each time it is reached (what is shared counts as often as it is met; a slice's spare places count too). A statement '..UptoSaid' is the law's where the arguments, and the package variables that the reading takes, are together of bulk at most 1048576: NARROWER than '..Said'. Prove '..Said' where nothing that the law and all that it calls make is longer than what came in: it says more and counts as full. Else prove '..UptoSaid'. A law counts once. -/
mutual
def uptoBulk {H : Type} : DataW H → Nat
  | .lit (.string bytes) => bytes.length + 1
  | .lit _ => 1
  | .nil => 1
  | .ptr d => uptoBulk d + 1
  | .slice elems spare => uptoBulkAll elems + uptoBulkAll spare + 1
  | .agg parts => uptoBulkAll parts + 1
  | .iface _ d => uptoBulk d + 1
  | .map entries => uptoBulkEntries entries + 1
  | .held _ => 1
def uptoBulkAll {H : Type} : List (DataW H) → Nat
  | [] => 0
  | d :: r => uptoBulk d + uptoBulkAll r
def uptoBulkEntries {H : Type} : List (Lit × DataW H) → Nat
  | [] => 0
  | x :: r => uptoBulkEntry x + uptoBulkEntries r
def uptoBulkEntry {H : Type} : Lit × DataW H → Nat
  | (.string bytes, d) => bytes.length + uptoBulk d + 1
  | (_, d) => uptoBulk d + 1
 end
def uptoSmall : (H : Type) → List (DataW H) → Bool := fun _ ds => decide (uptoBulkAll ds ≤ 1048576)
def OpenSpec.upto (s : _root_.Go.ChangeSpec) : _root_.Go.OpenSpec := { _root_.Go.OpenSpec.ofChange s with cond := some uptoSmall }

/-- 'slipstreamlaw02.GridPuts', WHERE WHAT IT READS IS OF BULK AT MOST 1048576: true; the input reads as it did. -/
def gridPutsUptoRow : OpenClaim := { program := "ytbcajalaopjmdaa", sum := "b63b9a41c2da71e92d9f64a81e703191a18323dbde4429a357cb362d9cf63289", func := "slipstream/slipstreamlaw02.GridPuts", spec := "gridPuts", unfollowed := true, recurses := true, apart := false, narrowed := true }
def GridPutsUptoSaid : Prop := gridPutsUptoRow.holds Try.pinned (OpenSpec.upto gridPutsSpec)

/-- 'slipstreamlaw02.GridStreams', WHERE WHAT IT READS IS OF BULK AT MOST 1048576: true; the input reads as it did. -/
def gridStreamsUptoRow : OpenClaim := { program := "ytbcajalaopjmdaa", sum := "b63b9a41c2da71e92d9f64a81e703191a18323dbde4429a357cb362d9cf63289", func := "slipstream/slipstreamlaw02.GridStreams", spec := "gridStreams", unfollowed := true, recurses := true, apart := false, narrowed := true }
def GridStreamsUptoSaid : Prop := gridStreamsUptoRow.holds Try.pinned (OpenSpec.upto gridStreamsSpec)

/-- 'slipstreamlaw02.GridAdds', WHERE WHAT IT READS IS OF BULK AT MOST 1048576: true; the input reads as it did. -/
def gridAddsUptoRow : OpenClaim := { program := "ytbcajalaopjmdaa", sum := "b63b9a41c2da71e92d9f64a81e703191a18323dbde4429a357cb362d9cf63289", func := "slipstream/slipstreamlaw02.GridAdds", spec := "gridAdds", unfollowed := true, recurses := true, apart := false, narrowed := true }
def GridAddsUptoSaid : Prop := gridAddsUptoRow.holds Try.pinned (OpenSpec.upto gridAddsSpec)

/-- 'slipstreamlaw02.GridMoves', WHERE WHAT IT READS IS OF BULK AT MOST 1048576: true; the input reads as it did. -/
def gridMovesUptoRow : OpenClaim := { program := "ytbcajalaopjmdaa", sum := "b63b9a41c2da71e92d9f64a81e703191a18323dbde4429a357cb362d9cf63289", func := "slipstream/slipstreamlaw02.GridMoves", spec := "gridMoves", unfollowed := true, recurses := true, apart := false, narrowed := true }
def GridMovesUptoSaid : Prop := gridMovesUptoRow.holds Try.pinned (OpenSpec.upto gridMovesSpec)

/-- 'slipstreamlaw02.GridPeriod', WHERE WHAT IT READS IS OF BULK AT MOST 1048576: true; the input reads as it did. -/
def gridPeriodUptoRow : OpenClaim := { program := "ytbcajalaopjmdaa", sum := "b63b9a41c2da71e92d9f64a81e703191a18323dbde4429a357cb362d9cf63289", func := "slipstream/slipstreamlaw02.GridPeriod", spec := "gridPeriod", unfollowed := true, recurses := true, apart := false, narrowed := true }
def GridPeriodUptoSaid : Prop := gridPeriodUptoRow.holds Try.pinned (OpenSpec.upto gridPeriodSpec)

/-- 'slipstreamlaw02.GridRuns', WHERE WHAT IT READS IS OF BULK AT MOST 1048576: true; the input reads as it did. -/
def gridRunsUptoRow : OpenClaim := { program := "ytbcajalaopjmdaa", sum := "b63b9a41c2da71e92d9f64a81e703191a18323dbde4429a357cb362d9cf63289", func := "slipstream/slipstreamlaw02.GridRuns", spec := "gridRuns", unfollowed := true, recurses := true, apart := false, narrowed := true }
def GridRunsUptoSaid : Prop := gridRunsUptoRow.holds Try.pinned (OpenSpec.upto gridRunsSpec)

/-- 'slipstreamlaw02.GridParts', WHERE WHAT IT READS IS OF BULK AT MOST 1048576: true; the input reads as it did. -/
def gridPartsUptoRow : OpenClaim := { program := "ytbcajalaopjmdaa", sum := "b63b9a41c2da71e92d9f64a81e703191a18323dbde4429a357cb362d9cf63289", func := "slipstream/slipstreamlaw02.GridParts", spec := "gridParts", unfollowed := true, recurses := true, apart := false, narrowed := true }
def GridPartsUptoSaid : Prop := gridPartsUptoRow.holds Try.pinned (OpenSpec.upto gridPartsSpec)

/-- 'slipstreamlaw02.GridSteps', WHERE WHAT IT READS IS OF BULK AT MOST 1048576: true; the input reads as it did. -/
def gridStepsUptoRow : OpenClaim := { program := "ytbcajalaopjmdaa", sum := "b63b9a41c2da71e92d9f64a81e703191a18323dbde4429a357cb362d9cf63289", func := "slipstream/slipstreamlaw02.GridSteps", spec := "gridSteps", unfollowed := true, recurses := true, apart := false, narrowed := true }
def GridStepsUptoSaid : Prop := gridStepsUptoRow.holds Try.pinned (OpenSpec.upto gridStepsSpec)

/-- 'slipstreamlaw02.GridSymmetric', WHERE WHAT IT READS IS OF BULK AT MOST 1048576: true; the input reads as it did. -/
def gridSymmetricUptoRow : OpenClaim := { program := "ytbcajalaopjmdaa", sum := "b63b9a41c2da71e92d9f64a81e703191a18323dbde4429a357cb362d9cf63289", func := "slipstream/slipstreamlaw02.GridSymmetric", spec := "gridSymmetric", unfollowed := true, recurses := true, apart := false, narrowed := true }
def GridSymmetricUptoSaid : Prop := gridSymmetricUptoRow.holds Try.pinned (OpenSpec.upto gridSymmetricSpec)

/-- 'slipstreamlaw02.GridKept', WHERE WHAT IT READS IS OF BULK AT MOST 1048576: true; the input reads as it did. -/
def gridKeptUptoRow : OpenClaim := { program := "ytbcajalaopjmdaa", sum := "b63b9a41c2da71e92d9f64a81e703191a18323dbde4429a357cb362d9cf63289", func := "slipstream/slipstreamlaw02.GridKept", spec := "gridKept", unfollowed := true, recurses := true, apart := false, narrowed := true }
def GridKeptUptoSaid : Prop := gridKeptUptoRow.holds Try.pinned (OpenSpec.upto gridKeptSpec)

/-- 'slipstreamtop.TopReversed', WHERE WHAT IT READS IS OF BULK AT MOST 1048576: true; the input reads as it did. -/
def topReversedUptoRow : OpenClaim := { program := "ytbcajalaopjmdaa", sum := "b63b9a41c2da71e92d9f64a81e703191a18323dbde4429a357cb362d9cf63289", func := "slipstream/slipstreamtop.TopReversed", spec := "topReversed", unfollowed := true, recurses := true, apart := false, narrowed := true }
def TopReversedUptoSaid : Prop := topReversedUptoRow.holds Try.pinned (OpenSpec.upto topReversedSpec)

/-- 'slipstreamtop.TopCells', WHERE WHAT IT READS IS OF BULK AT MOST 1048576: true; the input reads as it did. -/
def topCellsUptoRow : OpenClaim := { program := "ytbcajalaopjmdaa", sum := "b63b9a41c2da71e92d9f64a81e703191a18323dbde4429a357cb362d9cf63289", func := "slipstream/slipstreamtop.TopCells", spec := "topCells", unfollowed := true, recurses := true, apart := false, narrowed := true }
def TopCellsUptoSaid : Prop := topCellsUptoRow.holds Try.pinned (OpenSpec.upto topCellsSpec)

/-- 'slipstreamtop.TopContinuity', WHERE WHAT IT READS IS OF BULK AT MOST 1048576: true; the input reads as it did. -/
def topContinuityUptoRow : OpenClaim := { program := "ytbcajalaopjmdaa", sum := "b63b9a41c2da71e92d9f64a81e703191a18323dbde4429a357cb362d9cf63289", func := "slipstream/slipstreamtop.TopContinuity", spec := "topContinuity", unfollowed := true, recurses := true, apart := false, narrowed := true }
def TopContinuityUptoSaid : Prop := topContinuityUptoRow.holds Try.pinned (OpenSpec.upto topContinuitySpec)

end Rows
end Go.Proofs.Ytbcajalaopjmdaa

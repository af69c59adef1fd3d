/-
  No cell of these rows narrows 'for every input' (looked for: loops, veiled, ifaces, maps, wideKeys, modest, calm, conditions, laid).
  DERIVED. THE GIVEN ROWS OF THIS SEAT. 8 by the template 'for every input the law returns true; each argument reads behind the call as it read before'; 0 by the template 'total and deterministic' (their statements: YtbjgdlmiofgdnaaTotals.lean).
  GIVEN WITH THE SEED: the statements are not yours to turn. If you find one false, say at which input.
  Laid BY PROGRAM, IN A SANDBOX (cutbox-rows.mjs): the forced cells as the released guide's own fill.sh prints them over the translation 6af436bbc545a499… (all of the seat's roots in one cut). By AI agents, Wed Nov 11 2026. No macro, syntax, notation, axiom, sorry.
-/
import Derived.Test.YtbjgdlmiofgdnaaChecked
import GoSem.Claim
import GoSem.ClaimJoined
import GoSem.ClaimMapViews
import Derived.JoinedTies
import Derived.KernelRfl
namespace Go.Proofs.Ytbjgdlmiofgdnaa
/- THE CELL 'sum', in the pinned program and in every row, IS THE sha256 OF THE DUMP (.gsa) THAT YtbjgdlmiofgdnaaProg.lean LOADS. Nothing in Lean hashes anything: it is a label: what it is worth is what the hold of that sum in a sandbox is worth. -/
noncomputable def Try.pinned : Pinned := { name := "ytbjgdlmiofgdnaa", sum := "6af436bbc545a4995ba45e8f0c37c5498b5e4eb97c1fc600a0987ae02afb291a", checked := Try.checked }
namespace Rows
def none {H : Type} : Left H := { results := [], args := [] }

/-- 'slipstreamlaw08.FieldJoins': WHATEVER THE INPUT: true; the input reads as it did. -/
def fieldJoinsSpec : ChangeSpec := { name := "fieldJoins", fn := fun _ => fun
  | [d1, d2, d3, d4] => { results := [.lit (.bool true)], args := [d1, d2, d3, d4] }
  | _ => none }
def fieldJoinsRow : OpenClaim := { program := "ytbjgdlmiofgdnaa", sum := "6af436bbc545a4995ba45e8f0c37c5498b5e4eb97c1fc600a0987ae02afb291a", func := "slipstream/slipstreamlaw08.FieldJoins", spec := "fieldJoins", inPlace := ["internal/abi.NoEscape"], unfollowed := true, recurses := true, apart := false }
def FieldJoinsSaid : Prop := fieldJoinsRow.holds Try.pinned (OpenSpec.ofChange fieldJoinsSpec)

/-- ITS FALSE NEIGHBOUR: 'it returns false'. Refute it at one input. -/
def fieldJoinsWrong : ChangeSpec := { name := "fieldJoins", fn := fun _ => fun
  | [d1, d2, d3, d4] => { results := [.lit (.bool false)], args := [d1, d2, d3, d4] }
  | _ => none }
def FieldJoinsWrongFalsely : Prop := fieldJoinsRow.holds Try.pinned (OpenSpec.ofChange fieldJoinsWrong)

/-- 'slipstreamlaw08.FieldSpreads': WHATEVER THE INPUT: true; the input reads as it did. -/
def fieldSpreadsSpec : ChangeSpec := { name := "fieldSpreads", fn := fun _ => fun
  | [d] => { results := [.lit (.bool true)], args := [d] }
  | _ => none }
def fieldSpreadsRow : OpenClaim := { program := "ytbjgdlmiofgdnaa", sum := "6af436bbc545a4995ba45e8f0c37c5498b5e4eb97c1fc600a0987ae02afb291a", func := "slipstream/slipstreamlaw08.FieldSpreads", spec := "fieldSpreads", inPlace := ["internal/abi.NoEscape"], unfollowed := true, recurses := true, apart := false }
def FieldSpreadsSaid : Prop := fieldSpreadsRow.holds Try.pinned (OpenSpec.ofChange fieldSpreadsSpec)

/-- ITS FALSE NEIGHBOUR: 'it returns false'. Refute it at one input. -/
def fieldSpreadsWrong : ChangeSpec := { name := "fieldSpreads", fn := fun _ => fun
  | [d] => { results := [.lit (.bool false)], args := [d] }
  | _ => none }
def FieldSpreadsWrongFalsely : Prop := fieldSpreadsRow.holds Try.pinned (OpenSpec.ofChange fieldSpreadsWrong)

/-- 'slipstreamlaw08.FieldLoops': WHATEVER THE INPUT: true; the input reads as it did. -/
def fieldLoopsSpec : ChangeSpec := { name := "fieldLoops", fn := fun _ => fun
  | [d1, d2, d3, d4] => { results := [.lit (.bool true)], args := [d1, d2, d3, d4] }
  | _ => none }
def fieldLoopsRow : OpenClaim := { program := "ytbjgdlmiofgdnaa", sum := "6af436bbc545a4995ba45e8f0c37c5498b5e4eb97c1fc600a0987ae02afb291a", func := "slipstream/slipstreamlaw08.FieldLoops", spec := "fieldLoops", inPlace := ["internal/abi.NoEscape"], unfollowed := true, recurses := true, apart := false }
def FieldLoopsSaid : Prop := fieldLoopsRow.holds Try.pinned (OpenSpec.ofChange fieldLoopsSpec)

/-- ITS FALSE NEIGHBOUR: 'it returns false'. Refute it at one input. -/
def fieldLoopsWrong : ChangeSpec := { name := "fieldLoops", fn := fun _ => fun
  | [d1, d2, d3, d4] => { results := [.lit (.bool false)], args := [d1, d2, d3, d4] }
  | _ => none }
def FieldLoopsWrongFalsely : Prop := fieldLoopsRow.holds Try.pinned (OpenSpec.ofChange fieldLoopsWrong)

/-- 'slipstreamlaw08.FieldWeighs': WHATEVER THE INPUT: true; the input reads as it did. -/
def fieldWeighsSpec : ChangeSpec := { name := "fieldWeighs", fn := fun _ => fun
  | [d1, d2, d3, d4, d5] => { results := [.lit (.bool true)], args := [d1, d2, d3, d4, d5] }
  | _ => none }
def fieldWeighsRow : OpenClaim := { program := "ytbjgdlmiofgdnaa", sum := "6af436bbc545a4995ba45e8f0c37c5498b5e4eb97c1fc600a0987ae02afb291a", func := "slipstream/slipstreamlaw08.FieldWeighs", spec := "fieldWeighs", inPlace := ["internal/abi.NoEscape"], unfollowed := true, recurses := true, apart := false }
def FieldWeighsSaid : Prop := fieldWeighsRow.holds Try.pinned (OpenSpec.ofChange fieldWeighsSpec)

/-- ITS FALSE NEIGHBOUR: 'it returns false'. Refute it at one input. -/
def fieldWeighsWrong : ChangeSpec := { name := "fieldWeighs", fn := fun _ => fun
  | [d1, d2, d3, d4, d5] => { results := [.lit (.bool false)], args := [d1, d2, d3, d4, d5] }
  | _ => none }
def FieldWeighsWrongFalsely : Prop := fieldWeighsRow.holds Try.pinned (OpenSpec.ofChange fieldWeighsWrong)

/-- 'slipstreamlaw08.FieldMeans': WHATEVER THE INPUT: true; the input reads as it did. -/
def fieldMeansSpec : ChangeSpec := { name := "fieldMeans", fn := fun _ => fun
  | [d1, d2, d3, d4, d5, d6] => { results := [.lit (.bool true)], args := [d1, d2, d3, d4, d5, d6] }
  | _ => none }
def fieldMeansRow : OpenClaim := { program := "ytbjgdlmiofgdnaa", sum := "6af436bbc545a4995ba45e8f0c37c5498b5e4eb97c1fc600a0987ae02afb291a", func := "slipstream/slipstreamlaw08.FieldMeans", spec := "fieldMeans", inPlace := ["internal/abi.NoEscape"], unfollowed := true, recurses := true, apart := false }
def FieldMeansSaid : Prop := fieldMeansRow.holds Try.pinned (OpenSpec.ofChange fieldMeansSpec)

/-- ITS FALSE NEIGHBOUR: 'it returns false'. Refute it at one input. -/
def fieldMeansWrong : ChangeSpec := { name := "fieldMeans", fn := fun _ => fun
  | [d1, d2, d3, d4, d5, d6] => { results := [.lit (.bool false)], args := [d1, d2, d3, d4, d5, d6] }
  | _ => none }
def FieldMeansWrongFalsely : Prop := fieldMeansRow.holds Try.pinned (OpenSpec.ofChange fieldMeansWrong)

/-- 'slipstreamlaw08.FieldCrosses': WHATEVER THE INPUT: true; the input reads as it did. -/
def fieldCrossesSpec : ChangeSpec := { name := "fieldCrosses", fn := fun _ => fun
  | [d1, d2, d3, d4, d5] => { results := [.lit (.bool true)], args := [d1, d2, d3, d4, d5] }
  | _ => none }
def fieldCrossesRow : OpenClaim := { program := "ytbjgdlmiofgdnaa", sum := "6af436bbc545a4995ba45e8f0c37c5498b5e4eb97c1fc600a0987ae02afb291a", func := "slipstream/slipstreamlaw08.FieldCrosses", spec := "fieldCrosses", inPlace := ["internal/abi.NoEscape"], unfollowed := true, recurses := true, apart := false }
def FieldCrossesSaid : Prop := fieldCrossesRow.holds Try.pinned (OpenSpec.ofChange fieldCrossesSpec)

/-- ITS FALSE NEIGHBOUR: 'it returns false'. Refute it at one input. -/
def fieldCrossesWrong : ChangeSpec := { name := "fieldCrosses", fn := fun _ => fun
  | [d1, d2, d3, d4, d5] => { results := [.lit (.bool false)], args := [d1, d2, d3, d4, d5] }
  | _ => none }
def FieldCrossesWrongFalsely : Prop := fieldCrossesRow.holds Try.pinned (OpenSpec.ofChange fieldCrossesWrong)

/-- 'slipstreamlaw08.FieldPaths': WHATEVER THE INPUT: true; the input reads as it did. -/
def fieldPathsSpec : ChangeSpec := { name := "fieldPaths", fn := fun _ => fun
  | [d1, d2] => { results := [.lit (.bool true)], args := [d1, d2] }
  | _ => none }
def fieldPathsRow : OpenClaim := { program := "ytbjgdlmiofgdnaa", sum := "6af436bbc545a4995ba45e8f0c37c5498b5e4eb97c1fc600a0987ae02afb291a", func := "slipstream/slipstreamlaw08.FieldPaths", spec := "fieldPaths", inPlace := ["internal/abi.NoEscape"], unfollowed := true, recurses := true, apart := false }
def FieldPathsSaid : Prop := fieldPathsRow.holds Try.pinned (OpenSpec.ofChange fieldPathsSpec)

/-- ITS FALSE NEIGHBOUR: 'it returns false'. Refute it at one input. -/
def fieldPathsWrong : ChangeSpec := { name := "fieldPaths", fn := fun _ => fun
  | [d1, d2] => { results := [.lit (.bool false)], args := [d1, d2] }
  | _ => none }
def FieldPathsWrongFalsely : Prop := fieldPathsRow.holds Try.pinned (OpenSpec.ofChange fieldPathsWrong)

/-- 'slipstreamtop.TopContinuity': WHATEVER THE INPUT: true; the input reads as it did. -/
def topContinuitySpec : ChangeSpec := { name := "topContinuity", fn := fun _ => fun
  | [d] => { results := [.lit (.bool true)], args := [d] }
  | _ => none }
def topContinuityRow : OpenClaim := { program := "ytbjgdlmiofgdnaa", sum := "6af436bbc545a4995ba45e8f0c37c5498b5e4eb97c1fc600a0987ae02afb291a", func := "slipstream/slipstreamtop.TopContinuity", spec := "topContinuity", unfollowed := true, recurses := true, apart := false }
def TopContinuitySaid : Prop := topContinuityRow.holds Try.pinned (OpenSpec.ofChange topContinuitySpec)

/-- ITS FALSE NEIGHBOUR: 'it returns false'. Refute it at one input. -/
def topContinuityWrong : ChangeSpec := { name := "topContinuity", fn := fun _ => fun
  | [d] => { results := [.lit (.bool false)], args := [d] }
  | _ => none }
def TopContinuityWrongFalsely : Prop := topContinuityRow.holds Try.pinned (OpenSpec.ofChange topContinuityWrong)

/- THE SECOND FORM. 'bulk': how many values and letters a reading holds, each counted each time it is reached (what is shared counts as often as it is met; a slice's spare places count too). A statement '..UptoSaid' is the law's where the arguments, and the package variables that the reading takes, are together of bulk at most 1048576: NARROWER than '..Said'. Prove '..Said' where nothing that the law and all that it calls make is longer than what came in: it says more and counts as full. Else prove '..UptoSaid'. A law counts once. -/
mutual
def uptoBulk {H : Type} : DataW H → Nat
  | .lit (.string bytes) => bytes.length + 1
  | .lit _ => 1
  | .nil => 1
  | .ptr d => uptoBulk d + 1
  | .slice elems spare => uptoBulkAll elems + uptoBulkAll spare + 1
  | .agg parts => uptoBulkAll parts + 1
  | .iface _ d => uptoBulk d + 1
  | .map entries => uptoBulkEntries entries + 1
  | .held _ => 1
def uptoBulkAll {H : Type} : List (DataW H) → Nat
  | [] => 0
  | d :: r => uptoBulk d + uptoBulkAll r
def uptoBulkEntries {H : Type} : List (Lit × DataW H) → Nat
  | [] => 0
  | x :: r => uptoBulkEntry x + uptoBulkEntries r
def uptoBulkEntry {H : Type} : Lit × DataW H → Nat
  | (.string bytes, d) => bytes.length + uptoBulk d + 1
  | (_, d) => uptoBulk d + 1
 end
def uptoSmall : (H : Type) → List (DataW H) → Bool := fun _ ds => decide (uptoBulkAll ds ≤ 1048576)
def OpenSpec.upto (s : _root_.Go.ChangeSpec) : _root_.Go.OpenSpec := { _root_.Go.OpenSpec.ofChange s with cond := some uptoSmall }

/-- 'slipstreamlaw08.FieldJoins', WHERE WHAT IT READS IS OF BULK AT MOST 1048576: true; the input reads as it did. -/
def fieldJoinsUptoRow : OpenClaim := { program := "ytbjgdlmiofgdnaa", sum := "6af436bbc545a4995ba45e8f0c37c5498b5e4eb97c1fc600a0987ae02afb291a", func := "slipstream/slipstreamlaw08.FieldJoins", spec := "fieldJoins", inPlace := ["internal/abi.NoEscape"], unfollowed := true, recurses := true, apart := false, narrowed := true }
def FieldJoinsUptoSaid : Prop := fieldJoinsUptoRow.holds Try.pinned (OpenSpec.upto fieldJoinsSpec)

/-- 'slipstreamlaw08.FieldSpreads', WHERE WHAT IT READS IS OF BULK AT MOST 1048576: true; the input reads as it did. -/
def fieldSpreadsUptoRow : OpenClaim := { program := "ytbjgdlmiofgdnaa", sum := "6af436bbc545a4995ba45e8f0c37c5498b5e4eb97c1fc600a0987ae02afb291a", func := "slipstream/slipstreamlaw08.FieldSpreads", spec := "fieldSpreads", inPlace := ["internal/abi.NoEscape"], unfollowed := true, recurses := true, apart := false, narrowed := true }
def FieldSpreadsUptoSaid : Prop := fieldSpreadsUptoRow.holds Try.pinned (OpenSpec.upto fieldSpreadsSpec)

/-- 'slipstreamlaw08.FieldLoops', WHERE WHAT IT READS IS OF BULK AT MOST 1048576: true; the input reads as it did. -/
def fieldLoopsUptoRow : OpenClaim := { program := "ytbjgdlmiofgdnaa", sum := "6af436bbc545a4995ba45e8f0c37c5498b5e4eb97c1fc600a0987ae02afb291a", func := "slipstream/slipstreamlaw08.FieldLoops", spec := "fieldLoops", inPlace := ["internal/abi.NoEscape"], unfollowed := true, recurses := true, apart := false, narrowed := true }
def FieldLoopsUptoSaid : Prop := fieldLoopsUptoRow.holds Try.pinned (OpenSpec.upto fieldLoopsSpec)

/-- 'slipstreamlaw08.FieldWeighs', WHERE WHAT IT READS IS OF BULK AT MOST 1048576: true; the input reads as it did. -/
def fieldWeighsUptoRow : OpenClaim := { program := "ytbjgdlmiofgdnaa", sum := "6af436bbc545a4995ba45e8f0c37c5498b5e4eb97c1fc600a0987ae02afb291a", func := "slipstream/slipstreamlaw08.FieldWeighs", spec := "fieldWeighs", inPlace := ["internal/abi.NoEscape"], unfollowed := true, recurses := true, apart := false, narrowed := true }
def FieldWeighsUptoSaid : Prop := fieldWeighsUptoRow.holds Try.pinned (OpenSpec.upto fieldWeighsSpec)

/-- 'slipstreamlaw08.FieldMeans', WHERE WHAT IT READS IS OF BULK AT MOST 1048576: true; the input reads as it did. -/
def fieldMeansUptoRow : OpenClaim := { program := "ytbjgdlmiofgdnaa", sum := "6af436bbc545a4995ba45e8f0c37c5498b5e4eb97c1fc600a0987ae02afb291a", func := "slipstream/slipstreamlaw08.FieldMeans", spec := "fieldMeans", inPlace := ["internal/abi.NoEscape"], unfollowed := true, recurses := true, apart := false, narrowed := true }
def FieldMeansUptoSaid : Prop := fieldMeansUptoRow.holds Try.pinned (OpenSpec.upto fieldMeansSpec)

/-- 'slipstreamlaw08.FieldCrosses', WHERE WHAT IT READS IS OF BULK AT MOST 1048576: true; the input reads as it did. -/
def fieldCrossesUptoRow : OpenClaim := { program := "ytbjgdlmiofgdnaa", sum := "6af436bbc545a4995ba45e8f0c37c5498b5e4eb97c1fc600a0987ae02afb291a", func := "slipstream/slipstreamlaw08.FieldCrosses", spec := "fieldCrosses", inPlace := ["internal/abi.NoEscape"], unfollowed := true, recurses := true, apart := false, narrowed := true }
def FieldCrossesUptoSaid : Prop := fieldCrossesUptoRow.holds Try.pinned (OpenSpec.upto fieldCrossesSpec)

/-- 'slipstreamlaw08.FieldPaths', WHERE WHAT IT READS IS OF BULK AT MOST 1048576: true; the input reads as it did. -/
def fieldPathsUptoRow : OpenClaim := { program := "ytbjgdlmiofgdnaa", sum := "6af436bbc545a4995ba45e8f0c37c5498b5e4eb97c1fc600a0987ae02afb291a", func := "slipstream/slipstreamlaw08.FieldPaths", spec := "fieldPaths", inPlace := ["internal/abi.NoEscape"], unfollowed := true, recurses := true, apart := false, narrowed := true }
def FieldPathsUptoSaid : Prop := fieldPathsUptoRow.holds Try.pinned (OpenSpec.upto fieldPathsSpec)

/-- 'slipstreamtop.TopContinuity', WHERE WHAT IT READS IS OF BULK AT MOST 1048576: true; the input reads as it did. -/
def topContinuityUptoRow : OpenClaim := { program := "ytbjgdlmiofgdnaa", sum := "6af436bbc545a4995ba45e8f0c37c5498b5e4eb97c1fc600a0987ae02afb291a", func := "slipstream/slipstreamtop.TopContinuity", spec := "topContinuity", unfollowed := true, recurses := true, apart := false, narrowed := true }
def TopContinuityUptoSaid : Prop := topContinuityUptoRow.holds Try.pinned (OpenSpec.upto topContinuitySpec)

end Rows
end Go.Proofs.Ytbjgdlmiofgdnaa

/-
  No cell of these rows narrows 'for every input' (looked for: loops, veiled, ifaces, maps, wideKeys, modest, calm, conditions, laid).
  DERIVED. THE GIVEN ROWS OF THIS SEAT. 6 by the template 'for every input the law returns true; each argument reads behind the call as it read before'; 0 by the template 'total and deterministic' (their statements: YtkaebgfhbgicfaaTotals.lean).
  GIVEN WITH THE SEED: the statements are not yours to turn. If you find one false, say at which input.
  Laid BY PROGRAM, IN A SANDBOX (cutbox-rows.mjs): the forced cells as the released guide's own fill.sh prints them over the translation 18f47cd233d37a1c… (all of the seat's roots in one cut). By AI agents, Wed Nov 11 2026. No macro, syntax, notation, axiom, sorry.
-/
import Derived.Test.YtkaebgfhbgicfaaChecked
import GoSem.Claim
import GoSem.ClaimJoined
import GoSem.ClaimMapViews
import Derived.JoinedTies
import Derived.KernelRfl
namespace Go.Proofs.Ytkaebgfhbgicfaa
/- THE CELL 'sum', in the pinned program and in every row, IS THE sha256 OF THE DUMP (.gsa) THAT YtkaebgfhbgicfaaProg.lean LOADS. Nothing in Lean hashes anything: it is a label: what it is worth is what the hold of that sum in a sandbox is worth. -/
noncomputable def Try.pinned : Pinned := { name := "ytkaebgfhbgicfaa", sum := "18f47cd233d37a1c04b1a2060f9657c709feafeb2c49b72b44318cdfa431a00c", checked := Try.checked }
namespace Rows
def none {H : Type} : Left H := { results := [], args := [] }

/-- 'slipstreamlaw06.LevelCells': WHATEVER THE INPUT: true; the input reads as it did. -/
def levelCellsSpec : ChangeSpec := { name := "levelCells", fn := fun _ => fun
  | [d1, d2] => { results := [.lit (.bool true)], args := [d1, d2] }
  | _ => none }
def levelCellsRow : OpenClaim := { program := "ytkaebgfhbgicfaa", sum := "18f47cd233d37a1c04b1a2060f9657c709feafeb2c49b72b44318cdfa431a00c", func := "slipstream/slipstreamlaw06.LevelCells", spec := "levelCells", unfollowed := true, recurses := true, plainKeys := false, apart := false }
def LevelCellsSaid : Prop := levelCellsRow.holds Try.pinned (OpenSpec.ofChange levelCellsSpec)

/-- ITS FALSE NEIGHBOUR: 'it returns false'. Refute it at one input. -/
def levelCellsWrong : ChangeSpec := { name := "levelCells", fn := fun _ => fun
  | [d1, d2] => { results := [.lit (.bool false)], args := [d1, d2] }
  | _ => none }
def LevelCellsWrongFalsely : Prop := levelCellsRow.holds Try.pinned (OpenSpec.ofChange levelCellsWrong)

/-- 'slipstreamlaw06.LevelPatches': WHATEVER THE INPUT: true; the input reads as it did. -/
def levelPatchesSpec : ChangeSpec := { name := "levelPatches", fn := fun _ => fun
  | [d1, d2, d3, d4] => { results := [.lit (.bool true)], args := [d1, d2, d3, d4] }
  | _ => none }
def levelPatchesRow : OpenClaim := { program := "ytkaebgfhbgicfaa", sum := "18f47cd233d37a1c04b1a2060f9657c709feafeb2c49b72b44318cdfa431a00c", func := "slipstream/slipstreamlaw06.LevelPatches", spec := "levelPatches", unfollowed := true, recurses := true, plainKeys := false, apart := false }
def LevelPatchesSaid : Prop := levelPatchesRow.holds Try.pinned (OpenSpec.ofChange levelPatchesSpec)

/-- ITS FALSE NEIGHBOUR: 'it returns false'. Refute it at one input. -/
def levelPatchesWrong : ChangeSpec := { name := "levelPatches", fn := fun _ => fun
  | [d1, d2, d3, d4] => { results := [.lit (.bool false)], args := [d1, d2, d3, d4] }
  | _ => none }
def LevelPatchesWrongFalsely : Prop := levelPatchesRow.holds Try.pinned (OpenSpec.ofChange levelPatchesWrong)

/-- 'slipstreamlaw06.LevelSeam': WHATEVER THE INPUT: true; the input reads as it did. -/
def levelSeamSpec : ChangeSpec := { name := "levelSeam", fn := fun _ => fun
  | [d1, d2, d3] => { results := [.lit (.bool true)], args := [d1, d2, d3] }
  | _ => none }
def levelSeamRow : OpenClaim := { program := "ytkaebgfhbgicfaa", sum := "18f47cd233d37a1c04b1a2060f9657c709feafeb2c49b72b44318cdfa431a00c", func := "slipstream/slipstreamlaw06.LevelSeam", spec := "levelSeam", unfollowed := true, recurses := true, plainKeys := false, apart := false }
def LevelSeamSaid : Prop := levelSeamRow.holds Try.pinned (OpenSpec.ofChange levelSeamSpec)

/-- ITS FALSE NEIGHBOUR: 'it returns false'. Refute it at one input. -/
def levelSeamWrong : ChangeSpec := { name := "levelSeam", fn := fun _ => fun
  | [d1, d2, d3] => { results := [.lit (.bool false)], args := [d1, d2, d3] }
  | _ => none }
def LevelSeamWrongFalsely : Prop := levelSeamRow.holds Try.pinned (OpenSpec.ofChange levelSeamWrong)

/-- 'slipstreamlaw06.LevelStill': WHATEVER THE INPUT: true; the input reads as it did. -/
def levelStillSpec : ChangeSpec := { name := "levelStill", fn := fun _ => fun
  | [d1, d2, d3] => { results := [.lit (.bool true)], args := [d1, d2, d3] }
  | _ => none }
def levelStillRow : OpenClaim := { program := "ytkaebgfhbgicfaa", sum := "18f47cd233d37a1c04b1a2060f9657c709feafeb2c49b72b44318cdfa431a00c", func := "slipstream/slipstreamlaw06.LevelStill", spec := "levelStill", unfollowed := true, recurses := true, plainKeys := false, apart := false }
def LevelStillSaid : Prop := levelStillRow.holds Try.pinned (OpenSpec.ofChange levelStillSpec)

/-- ITS FALSE NEIGHBOUR: 'it returns false'. Refute it at one input. -/
def levelStillWrong : ChangeSpec := { name := "levelStill", fn := fun _ => fun
  | [d1, d2, d3] => { results := [.lit (.bool false)], args := [d1, d2, d3] }
  | _ => none }
def LevelStillWrongFalsely : Prop := levelStillRow.holds Try.pinned (OpenSpec.ofChange levelStillWrong)

/-- 'slipstreamtop.TopSeam': WHATEVER THE INPUT: true; the input reads as it did. -/
def topSeamSpec : ChangeSpec := { name := "topSeam", fn := fun _ => fun
  | [d1, d2, d3, d4] => { results := [.lit (.bool true)], args := [d1, d2, d3, d4] }
  | _ => none }
def topSeamRow : OpenClaim := { program := "ytkaebgfhbgicfaa", sum := "18f47cd233d37a1c04b1a2060f9657c709feafeb2c49b72b44318cdfa431a00c", func := "slipstream/slipstreamtop.TopSeam", spec := "topSeam", unfollowed := true, recurses := true, plainKeys := false, apart := false }
def TopSeamSaid : Prop := topSeamRow.holds Try.pinned (OpenSpec.ofChange topSeamSpec)

/-- ITS FALSE NEIGHBOUR: 'it returns false'. Refute it at one input. -/
def topSeamWrong : ChangeSpec := { name := "topSeam", fn := fun _ => fun
  | [d1, d2, d3, d4] => { results := [.lit (.bool false)], args := [d1, d2, d3, d4] }
  | _ => none }
def TopSeamWrongFalsely : Prop := topSeamRow.holds Try.pinned (OpenSpec.ofChange topSeamWrong)

/-- 'slipstreamlaw06.LevelRefines': WHATEVER THE INPUT: true; the input reads as it did. -/
def levelRefinesSpec : ChangeSpec := { name := "levelRefines", fn := fun _ => fun
  | [d] => { results := [.lit (.bool true)], args := [d] }
  | _ => none }
def levelRefinesRow : OpenClaim := { program := "ytkaebgfhbgicfaa", sum := "18f47cd233d37a1c04b1a2060f9657c709feafeb2c49b72b44318cdfa431a00c", func := "slipstream/slipstreamlaw06.LevelRefines", spec := "levelRefines", unfollowed := true, recurses := true, plainKeys := false, apart := false }
def LevelRefinesSaid : Prop := levelRefinesRow.holds Try.pinned (OpenSpec.ofChange levelRefinesSpec)

/-- ITS FALSE NEIGHBOUR: 'it returns false'. Refute it at one input. -/
def levelRefinesWrong : ChangeSpec := { name := "levelRefines", fn := fun _ => fun
  | [d] => { results := [.lit (.bool false)], args := [d] }
  | _ => none }
def LevelRefinesWrongFalsely : Prop := levelRefinesRow.holds Try.pinned (OpenSpec.ofChange levelRefinesWrong)

/- THE SECOND FORM. 'bulk': how many values and letters a reading holds, each counted each time it is reached (what is shared counts as often as it is met; a slice's spare places count too). A statement '..UptoSaid' is the law's where the arguments, and the package variables that the reading takes, are together of bulk at most 1048576: NARROWER than '..Said'. Prove '..Said' where nothing that the law and all that it calls make is longer than what came in: it says more and counts as full. Else prove '..UptoSaid'. A law counts once. -/
mutual
def uptoBulk {H : Type} : DataW H → Nat
  | .lit (.string bytes) => bytes.length + 1
  | .lit _ => 1
  | .nil => 1
  | .ptr d => uptoBulk d + 1
  | .slice elems spare => uptoBulkAll elems + uptoBulkAll spare + 1
  | .agg parts => uptoBulkAll parts + 1
  | .iface _ d => uptoBulk d + 1
  | .map entries => uptoBulkEntries entries + 1
  | .held _ => 1
def uptoBulkAll {H : Type} : List (DataW H) → Nat
  | [] => 0
  | d :: r => uptoBulk d + uptoBulkAll r
def uptoBulkEntries {H : Type} : List (Lit × DataW H) → Nat
  | [] => 0
  | x :: r => uptoBulkEntry x + uptoBulkEntries r
def uptoBulkEntry {H : Type} : Lit × DataW H → Nat
  | (.string bytes, d) => bytes.length + uptoBulk d + 1
  | (_, d) => uptoBulk d + 1
 end
def uptoSmall : (H : Type) → List (DataW H) → Bool := fun _ ds => decide (uptoBulkAll ds ≤ 1048576)
def OpenSpec.upto (s : _root_.Go.ChangeSpec) : _root_.Go.OpenSpec := { _root_.Go.OpenSpec.ofChange s with cond := some uptoSmall }

/-- 'slipstreamlaw06.LevelCells', WHERE WHAT IT READS IS OF BULK AT MOST 1048576: true; the input reads as it did. -/
def levelCellsUptoRow : OpenClaim := { program := "ytkaebgfhbgicfaa", sum := "18f47cd233d37a1c04b1a2060f9657c709feafeb2c49b72b44318cdfa431a00c", func := "slipstream/slipstreamlaw06.LevelCells", spec := "levelCells", unfollowed := true, recurses := true, plainKeys := false, apart := false, narrowed := true }
def LevelCellsUptoSaid : Prop := levelCellsUptoRow.holds Try.pinned (OpenSpec.upto levelCellsSpec)

/-- 'slipstreamlaw06.LevelPatches', WHERE WHAT IT READS IS OF BULK AT MOST 1048576: true; the input reads as it did. -/
def levelPatchesUptoRow : OpenClaim := { program := "ytkaebgfhbgicfaa", sum := "18f47cd233d37a1c04b1a2060f9657c709feafeb2c49b72b44318cdfa431a00c", func := "slipstream/slipstreamlaw06.LevelPatches", spec := "levelPatches", unfollowed := true, recurses := true, plainKeys := false, apart := false, narrowed := true }
def LevelPatchesUptoSaid : Prop := levelPatchesUptoRow.holds Try.pinned (OpenSpec.upto levelPatchesSpec)

/-- 'slipstreamlaw06.LevelSeam', WHERE WHAT IT READS IS OF BULK AT MOST 1048576: true; the input reads as it did. -/
def levelSeamUptoRow : OpenClaim := { program := "ytkaebgfhbgicfaa", sum := "18f47cd233d37a1c04b1a2060f9657c709feafeb2c49b72b44318cdfa431a00c", func := "slipstream/slipstreamlaw06.LevelSeam", spec := "levelSeam", unfollowed := true, recurses := true, plainKeys := false, apart := false, narrowed := true }
def LevelSeamUptoSaid : Prop := levelSeamUptoRow.holds Try.pinned (OpenSpec.upto levelSeamSpec)

/-- 'slipstreamlaw06.LevelStill', WHERE WHAT IT READS IS OF BULK AT MOST 1048576: true; the input reads as it did. -/
def levelStillUptoRow : OpenClaim := { program := "ytkaebgfhbgicfaa", sum := "18f47cd233d37a1c04b1a2060f9657c709feafeb2c49b72b44318cdfa431a00c", func := "slipstream/slipstreamlaw06.LevelStill", spec := "levelStill", unfollowed := true, recurses := true, plainKeys := false, apart := false, narrowed := true }
def LevelStillUptoSaid : Prop := levelStillUptoRow.holds Try.pinned (OpenSpec.upto levelStillSpec)

/-- 'slipstreamtop.TopSeam', WHERE WHAT IT READS IS OF BULK AT MOST 1048576: true; the input reads as it did. -/
def topSeamUptoRow : OpenClaim := { program := "ytkaebgfhbgicfaa", sum := "18f47cd233d37a1c04b1a2060f9657c709feafeb2c49b72b44318cdfa431a00c", func := "slipstream/slipstreamtop.TopSeam", spec := "topSeam", unfollowed := true, recurses := true, plainKeys := false, apart := false, narrowed := true }
def TopSeamUptoSaid : Prop := topSeamUptoRow.holds Try.pinned (OpenSpec.upto topSeamSpec)

/-- 'slipstreamlaw06.LevelRefines', WHERE WHAT IT READS IS OF BULK AT MOST 1048576: true; the input reads as it did. -/
def levelRefinesUptoRow : OpenClaim := { program := "ytkaebgfhbgicfaa", sum := "18f47cd233d37a1c04b1a2060f9657c709feafeb2c49b72b44318cdfa431a00c", func := "slipstream/slipstreamlaw06.LevelRefines", spec := "levelRefines", unfollowed := true, recurses := true, plainKeys := false, apart := false, narrowed := true }
def LevelRefinesUptoSaid : Prop := levelRefinesUptoRow.holds Try.pinned (OpenSpec.upto levelRefinesSpec)

end Rows
end Go.Proofs.Ytkaebgfhbgicfaa

/-
  No cell of these rows narrows 'for every input' (looked for: loops, veiled, ifaces, maps, wideKeys, modest, calm, conditions, laid).
  DERIVED. THE GIVEN ROWS OF THIS SEAT. 6 by the template 'for every input the law returns true; each argument reads behind the call as it read before'; 0 by the template 'total and deterministic' (their statements: YtjkdbnccgaheeaaTotals.lean).
  GIVEN WITH THE SEED: the statements are not yours to turn. If you find one false, say at which input.
  Laid BY PROGRAM, IN A SANDBOX (cutbox-rows.mjs): the forced cells as the released guide's own fill.sh prints them over the translation a6ea8827d7a65461… (all of the seat's roots in one cut). By AI agents, Wed Nov 11 2026. No macro, syntax, notation, axiom, sorry.
-/
import Derived.Test.YtjkdbnccgaheeaaChecked
import GoSem.Claim
import GoSem.ClaimJoined
import GoSem.ClaimMapViews
import Derived.JoinedTies
import Derived.KernelRfl
namespace Go.Proofs.Ytjkdbnccgaheeaa
/- THE CELL 'sum', in the pinned program and in every row, IS THE sha256 OF THE DUMP (.gsa) THAT YtjkdbnccgaheeaaProg.lean LOADS. Nothing in Lean hashes anything: it is a label: what it is worth is what the hold of that sum in a sandbox is worth. -/
noncomputable def Try.pinned : Pinned := { name := "ytjkdbnccgaheeaa", sum := "a6ea8827d7a65461683b57209a3bb6f9158d13927f95850337a8de68b338930a", checked := Try.checked }
namespace Rows
def none {H : Type} : Left H := { results := [], args := [] }

/-- 'slipstreamlaw07.GaugeSpans': WHATEVER THE INPUT: true; the input reads as it did. -/
def gaugeSpansSpec : ChangeSpec := { name := "gaugeSpans", fn := fun _ => fun
  | [d1, d2, d3, d4] => { results := [.lit (.bool true)], args := [d1, d2, d3, d4] }
  | _ => none }
def gaugeSpansRow : OpenClaim := { program := "ytjkdbnccgaheeaa", sum := "a6ea8827d7a65461683b57209a3bb6f9158d13927f95850337a8de68b338930a", func := "slipstream/slipstreamlaw07.GaugeSpans", spec := "gaugeSpans", unfollowed := true, recurses := true, apart := false }
def GaugeSpansSaid : Prop := gaugeSpansRow.holds Try.pinned (OpenSpec.ofChange gaugeSpansSpec)

/-- ITS FALSE NEIGHBOUR: 'it returns false'. Refute it at one input. -/
def gaugeSpansWrong : ChangeSpec := { name := "gaugeSpans", fn := fun _ => fun
  | [d1, d2, d3, d4] => { results := [.lit (.bool false)], args := [d1, d2, d3, d4] }
  | _ => none }
def GaugeSpansWrongFalsely : Prop := gaugeSpansRow.holds Try.pinned (OpenSpec.ofChange gaugeSpansWrong)

/-- 'slipstreamlaw07.GaugeMore': WHATEVER THE INPUT: true; the input reads as it did. -/
def gaugeMoreSpec : ChangeSpec := { name := "gaugeMore", fn := fun _ => fun
  | [d1, d2, d3, d4] => { results := [.lit (.bool true)], args := [d1, d2, d3, d4] }
  | _ => none }
def gaugeMoreRow : OpenClaim := { program := "ytjkdbnccgaheeaa", sum := "a6ea8827d7a65461683b57209a3bb6f9158d13927f95850337a8de68b338930a", func := "slipstream/slipstreamlaw07.GaugeMore", spec := "gaugeMore", unfollowed := true, recurses := true, apart := false }
def GaugeMoreSaid : Prop := gaugeMoreRow.holds Try.pinned (OpenSpec.ofChange gaugeMoreSpec)

/-- ITS FALSE NEIGHBOUR: 'it returns false'. Refute it at one input. -/
def gaugeMoreWrong : ChangeSpec := { name := "gaugeMore", fn := fun _ => fun
  | [d1, d2, d3, d4] => { results := [.lit (.bool false)], args := [d1, d2, d3, d4] }
  | _ => none }
def GaugeMoreWrongFalsely : Prop := gaugeMoreRow.holds Try.pinned (OpenSpec.ofChange gaugeMoreWrong)

/-- 'slipstreamlaw07.GaugeTrue': WHATEVER THE INPUT: true; the input reads as it did. -/
def gaugeTrueSpec : ChangeSpec := { name := "gaugeTrue", fn := fun _ => fun
  | [d1, d2, d3, d4] => { results := [.lit (.bool true)], args := [d1, d2, d3, d4] }
  | _ => none }
def gaugeTrueRow : OpenClaim := { program := "ytjkdbnccgaheeaa", sum := "a6ea8827d7a65461683b57209a3bb6f9158d13927f95850337a8de68b338930a", func := "slipstream/slipstreamlaw07.GaugeTrue", spec := "gaugeTrue", unfollowed := true, recurses := true, apart := false }
def GaugeTrueSaid : Prop := gaugeTrueRow.holds Try.pinned (OpenSpec.ofChange gaugeTrueSpec)

/-- ITS FALSE NEIGHBOUR: 'it returns false'. Refute it at one input. -/
def gaugeTrueWrong : ChangeSpec := { name := "gaugeTrue", fn := fun _ => fun
  | [d1, d2, d3, d4] => { results := [.lit (.bool false)], args := [d1, d2, d3, d4] }
  | _ => none }
def GaugeTrueWrongFalsely : Prop := gaugeTrueRow.holds Try.pinned (OpenSpec.ofChange gaugeTrueWrong)

/-- 'slipstreamlaw07.GaugeChains': WHATEVER THE INPUT: true; the input reads as it did. -/
def gaugeChainsSpec : ChangeSpec := { name := "gaugeChains", fn := fun _ => fun
  | [d1, d2, d3] => { results := [.lit (.bool true)], args := [d1, d2, d3] }
  | _ => none }
def gaugeChainsRow : OpenClaim := { program := "ytjkdbnccgaheeaa", sum := "a6ea8827d7a65461683b57209a3bb6f9158d13927f95850337a8de68b338930a", func := "slipstream/slipstreamlaw07.GaugeChains", spec := "gaugeChains", unfollowed := true, recurses := true, apart := false }
def GaugeChainsSaid : Prop := gaugeChainsRow.holds Try.pinned (OpenSpec.ofChange gaugeChainsSpec)

/-- ITS FALSE NEIGHBOUR: 'it returns false'. Refute it at one input. -/
def gaugeChainsWrong : ChangeSpec := { name := "gaugeChains", fn := fun _ => fun
  | [d1, d2, d3] => { results := [.lit (.bool false)], args := [d1, d2, d3] }
  | _ => none }
def GaugeChainsWrongFalsely : Prop := gaugeChainsRow.holds Try.pinned (OpenSpec.ofChange gaugeChainsWrong)

/-- 'slipstreamlaw07.GaugeProofs': WHATEVER THE INPUT: true; the input reads as it did. -/
def gaugeProofsSpec : ChangeSpec := { name := "gaugeProofs", fn := fun _ => fun
  | [d1, d2, d3, d4, d5] => { results := [.lit (.bool true)], args := [d1, d2, d3, d4, d5] }
  | _ => none }
def gaugeProofsRow : OpenClaim := { program := "ytjkdbnccgaheeaa", sum := "a6ea8827d7a65461683b57209a3bb6f9158d13927f95850337a8de68b338930a", func := "slipstream/slipstreamlaw07.GaugeProofs", spec := "gaugeProofs", unfollowed := true, recurses := true, apart := false }
def GaugeProofsSaid : Prop := gaugeProofsRow.holds Try.pinned (OpenSpec.ofChange gaugeProofsSpec)

/-- ITS FALSE NEIGHBOUR: 'it returns false'. Refute it at one input. -/
def gaugeProofsWrong : ChangeSpec := { name := "gaugeProofs", fn := fun _ => fun
  | [d1, d2, d3, d4, d5] => { results := [.lit (.bool false)], args := [d1, d2, d3, d4, d5] }
  | _ => none }
def GaugeProofsWrongFalsely : Prop := gaugeProofsRow.holds Try.pinned (OpenSpec.ofChange gaugeProofsWrong)

/-- 'slipstreamlaw07.GaugeBoxes': WHATEVER THE INPUT: true; the input reads as it did. -/
def gaugeBoxesSpec : ChangeSpec := { name := "gaugeBoxes", fn := fun _ => fun
  | [d1, d2, d3, d4, d5, d6, d7] => { results := [.lit (.bool true)], args := [d1, d2, d3, d4, d5, d6, d7] }
  | _ => none }
def gaugeBoxesRow : OpenClaim := { program := "ytjkdbnccgaheeaa", sum := "a6ea8827d7a65461683b57209a3bb6f9158d13927f95850337a8de68b338930a", func := "slipstream/slipstreamlaw07.GaugeBoxes", spec := "gaugeBoxes", unfollowed := true, recurses := true, apart := false }
def GaugeBoxesSaid : Prop := gaugeBoxesRow.holds Try.pinned (OpenSpec.ofChange gaugeBoxesSpec)

/-- ITS FALSE NEIGHBOUR: 'it returns false'. Refute it at one input. -/
def gaugeBoxesWrong : ChangeSpec := { name := "gaugeBoxes", fn := fun _ => fun
  | [d1, d2, d3, d4, d5, d6, d7] => { results := [.lit (.bool false)], args := [d1, d2, d3, d4, d5, d6, d7] }
  | _ => none }
def GaugeBoxesWrongFalsely : Prop := gaugeBoxesRow.holds Try.pinned (OpenSpec.ofChange gaugeBoxesWrong)

/- THE SECOND FORM. 'bulk': how many values and letters a reading holds, each counted each time it is reached (what is shared counts as often as it is met; a slice's spare places count too). A statement '..UptoSaid' is the law's where the arguments, and the package variables that the reading takes, are together of bulk at most 1048576: NARROWER than '..Said'. Prove '..Said' where nothing that the law and all that it calls make is longer than what came in: it says more and counts as full. Else prove '..UptoSaid'. A law counts once. -/
mutual
def uptoBulk {H : Type} : DataW H → Nat
  | .lit (.string bytes) => bytes.length + 1
  | .lit _ => 1
  | .nil => 1
  | .ptr d => uptoBulk d + 1
  | .slice elems spare => uptoBulkAll elems + uptoBulkAll spare + 1
  | .agg parts => uptoBulkAll parts + 1
  | .iface _ d => uptoBulk d + 1
  | .map entries => uptoBulkEntries entries + 1
  | .held _ => 1
def uptoBulkAll {H : Type} : List (DataW H) → Nat
  | [] => 0
  | d :: r => uptoBulk d + uptoBulkAll r
def uptoBulkEntries {H : Type} : List (Lit × DataW H) → Nat
  | [] => 0
  | x :: r => uptoBulkEntry x + uptoBulkEntries r
def uptoBulkEntry {H : Type} : Lit × DataW H → Nat
  | (.string bytes, d) => bytes.length + uptoBulk d + 1
  | (_, d) => uptoBulk d + 1
 end
def uptoSmall : (H : Type) → List (DataW H) → Bool := fun _ ds => decide (uptoBulkAll ds ≤ 1048576)
def OpenSpec.upto (s : _root_.Go.ChangeSpec) : _root_.Go.OpenSpec := { _root_.Go.OpenSpec.ofChange s with cond := some uptoSmall }

/-- 'slipstreamlaw07.GaugeSpans', WHERE WHAT IT READS IS OF BULK AT MOST 1048576: true; the input reads as it did. -/
def gaugeSpansUptoRow : OpenClaim := { program := "ytjkdbnccgaheeaa", sum := "a6ea8827d7a65461683b57209a3bb6f9158d13927f95850337a8de68b338930a", func := "slipstream/slipstreamlaw07.GaugeSpans", spec := "gaugeSpans", unfollowed := true, recurses := true, apart := false, narrowed := true }
def GaugeSpansUptoSaid : Prop := gaugeSpansUptoRow.holds Try.pinned (OpenSpec.upto gaugeSpansSpec)

/-- 'slipstreamlaw07.GaugeMore', WHERE WHAT IT READS IS OF BULK AT MOST 1048576: true; the input reads as it did. -/
def gaugeMoreUptoRow : OpenClaim := { program := "ytjkdbnccgaheeaa", sum := "a6ea8827d7a65461683b57209a3bb6f9158d13927f95850337a8de68b338930a", func := "slipstream/slipstreamlaw07.GaugeMore", spec := "gaugeMore", unfollowed := true, recurses := true, apart := false, narrowed := true }
def GaugeMoreUptoSaid : Prop := gaugeMoreUptoRow.holds Try.pinned (OpenSpec.upto gaugeMoreSpec)

/-- 'slipstreamlaw07.GaugeTrue', WHERE WHAT IT READS IS OF BULK AT MOST 1048576: true; the input reads as it did. -/
def gaugeTrueUptoRow : OpenClaim := { program := "ytjkdbnccgaheeaa", sum := "a6ea8827d7a65461683b57209a3bb6f9158d13927f95850337a8de68b338930a", func := "slipstream/slipstreamlaw07.GaugeTrue", spec := "gaugeTrue", unfollowed := true, recurses := true, apart := false, narrowed := true }
def GaugeTrueUptoSaid : Prop := gaugeTrueUptoRow.holds Try.pinned (OpenSpec.upto gaugeTrueSpec)

/-- 'slipstreamlaw07.GaugeChains', WHERE WHAT IT READS IS OF BULK AT MOST 1048576: true; the input reads as it did. -/
def gaugeChainsUptoRow : OpenClaim := { program := "ytjkdbnccgaheeaa", sum := "a6ea8827d7a65461683b57209a3bb6f9158d13927f95850337a8de68b338930a", func := "slipstream/slipstreamlaw07.GaugeChains", spec := "gaugeChains", unfollowed := true, recurses := true, apart := false, narrowed := true }
def GaugeChainsUptoSaid : Prop := gaugeChainsUptoRow.holds Try.pinned (OpenSpec.upto gaugeChainsSpec)

/-- 'slipstreamlaw07.GaugeProofs', WHERE WHAT IT READS IS OF BULK AT MOST 1048576: true; the input reads as it did. -/
def gaugeProofsUptoRow : OpenClaim := { program := "ytjkdbnccgaheeaa", sum := "a6ea8827d7a65461683b57209a3bb6f9158d13927f95850337a8de68b338930a", func := "slipstream/slipstreamlaw07.GaugeProofs", spec := "gaugeProofs", unfollowed := true, recurses := true, apart := false, narrowed := true }
def GaugeProofsUptoSaid : Prop := gaugeProofsUptoRow.holds Try.pinned (OpenSpec.upto gaugeProofsSpec)

/-- 'slipstreamlaw07.GaugeBoxes', WHERE WHAT IT READS IS OF BULK AT MOST 1048576: true; the input reads as it did. -/
def gaugeBoxesUptoRow : OpenClaim := { program := "ytjkdbnccgaheeaa", sum := "a6ea8827d7a65461683b57209a3bb6f9158d13927f95850337a8de68b338930a", func := "slipstream/slipstreamlaw07.GaugeBoxes", spec := "gaugeBoxes", unfollowed := true, recurses := true, apart := false, narrowed := true }
def GaugeBoxesUptoSaid : Prop := gaugeBoxesUptoRow.holds Try.pinned (OpenSpec.upto gaugeBoxesSpec)

end Rows
end Go.Proofs.Ytjkdbnccgaheeaa

/-
  No cell of these rows narrows 'for every input' (looked for: loops, veiled, ifaces, maps, wideKeys, modest, calm, conditions, laid).
  DERIVED. THE GIVEN ROWS OF THIS SEAT. 7 by the template 'for every input the law returns true; each argument reads behind the call as it read before'; 0 by the template 'total and deterministic' (their statements: YtghflfilemhaoaaTotals.lean).
  GIVEN WITH THE SEED: the statements are not yours to turn. If you find one false, say at which input.
  Laid BY PROGRAM, IN A SANDBOX (cutbox-rows.mjs): the forced cells as the released guide's own fill.sh prints them over the translation e31544366acd28a0… (all of the seat's roots in one cut). By AI agents, Wed Nov 11 2026. No macro, syntax, notation, axiom, sorry.
-/
import Derived.Test.YtghflfilemhaoaaChecked
import GoSem.Claim
import GoSem.ClaimJoined
import GoSem.ClaimMapViews
import Derived.JoinedTies
import Derived.KernelRfl
namespace Go.Proofs.Ytghflfilemhaoaa
/- THE CELL 'sum', in the pinned program and in every row, IS THE sha256 OF THE DUMP (.gsa) THAT YtghflfilemhaoaaProg.lean LOADS. Nothing in Lean hashes anything: it is a label: what it is worth is what the hold of that sum in a sandbox is worth. -/
noncomputable def Try.pinned : Pinned := { name := "ytghflfilemhaoaa", sum := "e31544366acd28a0b79fe5fa1697d5ddf1e1f2f79beab7dfe3fbdd2671c42e72", checked := Try.checked }
namespace Rows
def none {H : Type} : Left H := { results := [], args := [] }

/-- 'slipstreamlaw04.PhaseEven': WHATEVER THE INPUT: true; the input reads as it did. -/
def phaseEvenSpec : ChangeSpec := { name := "phaseEven", fn := fun _ => fun
  | [d] => { results := [.lit (.bool true)], args := [d] }
  | _ => none }
def phaseEvenRow : OpenClaim := { program := "ytghflfilemhaoaa", sum := "e31544366acd28a0b79fe5fa1697d5ddf1e1f2f79beab7dfe3fbdd2671c42e72", func := "slipstream/slipstreamlaw04.PhaseEven", spec := "phaseEven", unfollowed := true, recurses := true, apart := false }
def PhaseEvenSaid : Prop := phaseEvenRow.holds Try.pinned (OpenSpec.ofChange phaseEvenSpec)

/-- ITS FALSE NEIGHBOUR: 'it returns false'. Refute it at one input. -/
def phaseEvenWrong : ChangeSpec := { name := "phaseEven", fn := fun _ => fun
  | [d] => { results := [.lit (.bool false)], args := [d] }
  | _ => none }
def PhaseEvenWrongFalsely : Prop := phaseEvenRow.holds Try.pinned (OpenSpec.ofChange phaseEvenWrong)

/-- 'slipstreamlaw04.PhaseParts': WHATEVER THE INPUT: true; the input reads as it did. -/
def phasePartsSpec : ChangeSpec := { name := "phaseParts", fn := fun _ => fun
  | [d1, d2, d3] => { results := [.lit (.bool true)], args := [d1, d2, d3] }
  | _ => none }
def phasePartsRow : OpenClaim := { program := "ytghflfilemhaoaa", sum := "e31544366acd28a0b79fe5fa1697d5ddf1e1f2f79beab7dfe3fbdd2671c42e72", func := "slipstream/slipstreamlaw04.PhaseParts", spec := "phaseParts", unfollowed := true, recurses := true, apart := false }
def PhasePartsSaid : Prop := phasePartsRow.holds Try.pinned (OpenSpec.ofChange phasePartsSpec)

/-- ITS FALSE NEIGHBOUR: 'it returns false'. Refute it at one input. -/
def phasePartsWrong : ChangeSpec := { name := "phaseParts", fn := fun _ => fun
  | [d1, d2, d3] => { results := [.lit (.bool false)], args := [d1, d2, d3] }
  | _ => none }
def PhasePartsWrongFalsely : Prop := phasePartsRow.holds Try.pinned (OpenSpec.ofChange phasePartsWrong)

/-- 'slipstreamlaw04.PhaseMasses': WHATEVER THE INPUT: true; the input reads as it did. -/
def phaseMassesSpec : ChangeSpec := { name := "phaseMasses", fn := fun _ => fun
  | [d] => { results := [.lit (.bool true)], args := [d] }
  | _ => none }
def phaseMassesRow : OpenClaim := { program := "ytghflfilemhaoaa", sum := "e31544366acd28a0b79fe5fa1697d5ddf1e1f2f79beab7dfe3fbdd2671c42e72", func := "slipstream/slipstreamlaw04.PhaseMasses", spec := "phaseMasses", unfollowed := true, recurses := true, apart := false }
def PhaseMassesSaid : Prop := phaseMassesRow.holds Try.pinned (OpenSpec.ofChange phaseMassesSpec)

/-- ITS FALSE NEIGHBOUR: 'it returns false'. Refute it at one input. -/
def phaseMassesWrong : ChangeSpec := { name := "phaseMasses", fn := fun _ => fun
  | [d] => { results := [.lit (.bool false)], args := [d] }
  | _ => none }
def PhaseMassesWrongFalsely : Prop := phaseMassesRow.holds Try.pinned (OpenSpec.ofChange phaseMassesWrong)

/-- 'slipstreamlaw04.PhaseSwaps': WHATEVER THE INPUT: true; the input reads as it did. -/
def phaseSwapsSpec : ChangeSpec := { name := "phaseSwaps", fn := fun _ => fun
  | [d1, d2, d3] => { results := [.lit (.bool true)], args := [d1, d2, d3] }
  | _ => none }
def phaseSwapsRow : OpenClaim := { program := "ytghflfilemhaoaa", sum := "e31544366acd28a0b79fe5fa1697d5ddf1e1f2f79beab7dfe3fbdd2671c42e72", func := "slipstream/slipstreamlaw04.PhaseSwaps", spec := "phaseSwaps", unfollowed := true, recurses := true, apart := false }
def PhaseSwapsSaid : Prop := phaseSwapsRow.holds Try.pinned (OpenSpec.ofChange phaseSwapsSpec)

/-- ITS FALSE NEIGHBOUR: 'it returns false'. Refute it at one input. -/
def phaseSwapsWrong : ChangeSpec := { name := "phaseSwaps", fn := fun _ => fun
  | [d1, d2, d3] => { results := [.lit (.bool false)], args := [d1, d2, d3] }
  | _ => none }
def PhaseSwapsWrongFalsely : Prop := phaseSwapsRow.holds Try.pinned (OpenSpec.ofChange phaseSwapsWrong)

/-- 'slipstreamlaw04.PhaseAlone': WHATEVER THE INPUT: true; the input reads as it did. -/
def phaseAloneSpec : ChangeSpec := { name := "phaseAlone", fn := fun _ => fun
  | [d1, d2, d3] => { results := [.lit (.bool true)], args := [d1, d2, d3] }
  | _ => none }
def phaseAloneRow : OpenClaim := { program := "ytghflfilemhaoaa", sum := "e31544366acd28a0b79fe5fa1697d5ddf1e1f2f79beab7dfe3fbdd2671c42e72", func := "slipstream/slipstreamlaw04.PhaseAlone", spec := "phaseAlone", unfollowed := true, recurses := true, apart := false }
def PhaseAloneSaid : Prop := phaseAloneRow.holds Try.pinned (OpenSpec.ofChange phaseAloneSpec)

/-- ITS FALSE NEIGHBOUR: 'it returns false'. Refute it at one input. -/
def phaseAloneWrong : ChangeSpec := { name := "phaseAlone", fn := fun _ => fun
  | [d1, d2, d3] => { results := [.lit (.bool false)], args := [d1, d2, d3] }
  | _ => none }
def PhaseAloneWrongFalsely : Prop := phaseAloneRow.holds Try.pinned (OpenSpec.ofChange phaseAloneWrong)

/-- 'slipstreamlaw04.PhaseKept': WHATEVER THE INPUT: true; the input reads as it did. -/
def phaseKeptSpec : ChangeSpec := { name := "phaseKept", fn := fun _ => fun
  | [d1, d2, d3] => { results := [.lit (.bool true)], args := [d1, d2, d3] }
  | _ => none }
def phaseKeptRow : OpenClaim := { program := "ytghflfilemhaoaa", sum := "e31544366acd28a0b79fe5fa1697d5ddf1e1f2f79beab7dfe3fbdd2671c42e72", func := "slipstream/slipstreamlaw04.PhaseKept", spec := "phaseKept", unfollowed := true, recurses := true, apart := false }
def PhaseKeptSaid : Prop := phaseKeptRow.holds Try.pinned (OpenSpec.ofChange phaseKeptSpec)

/-- ITS FALSE NEIGHBOUR: 'it returns false'. Refute it at one input. -/
def phaseKeptWrong : ChangeSpec := { name := "phaseKept", fn := fun _ => fun
  | [d1, d2, d3] => { results := [.lit (.bool false)], args := [d1, d2, d3] }
  | _ => none }
def PhaseKeptWrongFalsely : Prop := phaseKeptRow.holds Try.pinned (OpenSpec.ofChange phaseKeptWrong)

/-- 'slipstreamlaw04.PhaseKinds': WHATEVER THE INPUT: true; the input reads as it did. -/
def phaseKindsSpec : ChangeSpec := { name := "phaseKinds", fn := fun _ => fun
  | [d1, d2, d3] => { results := [.lit (.bool true)], args := [d1, d2, d3] }
  | _ => none }
def phaseKindsRow : OpenClaim := { program := "ytghflfilemhaoaa", sum := "e31544366acd28a0b79fe5fa1697d5ddf1e1f2f79beab7dfe3fbdd2671c42e72", func := "slipstream/slipstreamlaw04.PhaseKinds", spec := "phaseKinds", unfollowed := true, recurses := true, apart := false }
def PhaseKindsSaid : Prop := phaseKindsRow.holds Try.pinned (OpenSpec.ofChange phaseKindsSpec)

/-- ITS FALSE NEIGHBOUR: 'it returns false'. Refute it at one input. -/
def phaseKindsWrong : ChangeSpec := { name := "phaseKinds", fn := fun _ => fun
  | [d1, d2, d3] => { results := [.lit (.bool false)], args := [d1, d2, d3] }
  | _ => none }
def PhaseKindsWrongFalsely : Prop := phaseKindsRow.holds Try.pinned (OpenSpec.ofChange phaseKindsWrong)

/- THE SECOND FORM. 'bulk': how many values and letters a reading holds, each counted each time it is reached (what is shared counts as often as it is met; a slice's spare places count too). A statement '..UptoSaid' is the law's where the arguments, and the package variables that the reading takes, are together of bulk at most 1048576: NARROWER than '..Said'. Prove '..Said' where nothing that the law and all that it calls make is longer than what came in: it says more and counts as full. Else prove '..UptoSaid'. A law counts once. -/
mutual
def uptoBulk {H : Type} : DataW H → Nat
  | .lit (.string bytes) => bytes.length + 1
  | .lit _ => 1
  | .nil => 1
  | .ptr d => uptoBulk d + 1
  | .slice elems spare => uptoBulkAll elems + uptoBulkAll spare + 1
  | .agg parts => uptoBulkAll parts + 1
  | .iface _ d => uptoBulk d + 1
  | .map entries => uptoBulkEntries entries + 1
  | .held _ => 1
def uptoBulkAll {H : Type} : List (DataW H) → Nat
  | [] => 0
  | d :: r => uptoBulk d + uptoBulkAll r
def uptoBulkEntries {H : Type} : List (Lit × DataW H) → Nat
  | [] => 0
  | x :: r => uptoBulkEntry x + uptoBulkEntries r
def uptoBulkEntry {H : Type} : Lit × DataW H → Nat
  | (.string bytes, d) => bytes.length + uptoBulk d + 1
  | (_, d) => uptoBulk d + 1
 end
def uptoSmall : (H : Type) → List (DataW H) → Bool := fun _ ds => decide (uptoBulkAll ds ≤ 1048576)
def OpenSpec.upto (s : _root_.Go.ChangeSpec) : _root_.Go.OpenSpec := { _root_.Go.OpenSpec.ofChange s with cond := some uptoSmall }

/-- 'slipstreamlaw04.PhaseEven', WHERE WHAT IT READS IS OF BULK AT MOST 1048576: true; the input reads as it did. -/
def phaseEvenUptoRow : OpenClaim := { program := "ytghflfilemhaoaa", sum := "e31544366acd28a0b79fe5fa1697d5ddf1e1f2f79beab7dfe3fbdd2671c42e72", func := "slipstream/slipstreamlaw04.PhaseEven", spec := "phaseEven", unfollowed := true, recurses := true, apart := false, narrowed := true }
def PhaseEvenUptoSaid : Prop := phaseEvenUptoRow.holds Try.pinned (OpenSpec.upto phaseEvenSpec)

/-- 'slipstreamlaw04.PhaseParts', WHERE WHAT IT READS IS OF BULK AT MOST 1048576: true; the input reads as it did. -/
def phasePartsUptoRow : OpenClaim := { program := "ytghflfilemhaoaa", sum := "e31544366acd28a0b79fe5fa1697d5ddf1e1f2f79beab7dfe3fbdd2671c42e72", func := "slipstream/slipstreamlaw04.PhaseParts", spec := "phaseParts", unfollowed := true, recurses := true, apart := false, narrowed := true }
def PhasePartsUptoSaid : Prop := phasePartsUptoRow.holds Try.pinned (OpenSpec.upto phasePartsSpec)

/-- 'slipstreamlaw04.PhaseMasses', WHERE WHAT IT READS IS OF BULK AT MOST 1048576: true; the input reads as it did. -/
def phaseMassesUptoRow : OpenClaim := { program := "ytghflfilemhaoaa", sum := "e31544366acd28a0b79fe5fa1697d5ddf1e1f2f79beab7dfe3fbdd2671c42e72", func := "slipstream/slipstreamlaw04.PhaseMasses", spec := "phaseMasses", unfollowed := true, recurses := true, apart := false, narrowed := true }
def PhaseMassesUptoSaid : Prop := phaseMassesUptoRow.holds Try.pinned (OpenSpec.upto phaseMassesSpec)

/-- 'slipstreamlaw04.PhaseSwaps', WHERE WHAT IT READS IS OF BULK AT MOST 1048576: true; the input reads as it did. -/
def phaseSwapsUptoRow : OpenClaim := { program := "ytghflfilemhaoaa", sum := "e31544366acd28a0b79fe5fa1697d5ddf1e1f2f79beab7dfe3fbdd2671c42e72", func := "slipstream/slipstreamlaw04.PhaseSwaps", spec := "phaseSwaps", unfollowed := true, recurses := true, apart := false, narrowed := true }
def PhaseSwapsUptoSaid : Prop := phaseSwapsUptoRow.holds Try.pinned (OpenSpec.upto phaseSwapsSpec)

/-- 'slipstreamlaw04.PhaseAlone', WHERE WHAT IT READS IS OF BULK AT MOST 1048576: true; the input reads as it did. -/
def phaseAloneUptoRow : OpenClaim := { program := "ytghflfilemhaoaa", sum := "e31544366acd28a0b79fe5fa1697d5ddf1e1f2f79beab7dfe3fbdd2671c42e72", func := "slipstream/slipstreamlaw04.PhaseAlone", spec := "phaseAlone", unfollowed := true, recurses := true, apart := false, narrowed := true }
def PhaseAloneUptoSaid : Prop := phaseAloneUptoRow.holds Try.pinned (OpenSpec.upto phaseAloneSpec)

/-- 'slipstreamlaw04.PhaseKept', WHERE WHAT IT READS IS OF BULK AT MOST 1048576: true; the input reads as it did. -/
def phaseKeptUptoRow : OpenClaim := { program := "ytghflfilemhaoaa", sum := "e31544366acd28a0b79fe5fa1697d5ddf1e1f2f79beab7dfe3fbdd2671c42e72", func := "slipstream/slipstreamlaw04.PhaseKept", spec := "phaseKept", unfollowed := true, recurses := true, apart := false, narrowed := true }
def PhaseKeptUptoSaid : Prop := phaseKeptUptoRow.holds Try.pinned (OpenSpec.upto phaseKeptSpec)

/-- 'slipstreamlaw04.PhaseKinds', WHERE WHAT IT READS IS OF BULK AT MOST 1048576: true; the input reads as it did. -/
def phaseKindsUptoRow : OpenClaim := { program := "ytghflfilemhaoaa", sum := "e31544366acd28a0b79fe5fa1697d5ddf1e1f2f79beab7dfe3fbdd2671c42e72", func := "slipstream/slipstreamlaw04.PhaseKinds", spec := "phaseKinds", unfollowed := true, recurses := true, apart := false, narrowed := true }
def PhaseKindsUptoSaid : Prop := phaseKindsUptoRow.holds Try.pinned (OpenSpec.upto phaseKindsSpec)

end Rows
end Go.Proofs.Ytghflfilemhaoaa

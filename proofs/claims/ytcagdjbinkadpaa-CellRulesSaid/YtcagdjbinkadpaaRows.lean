/-
  No cell of these rows narrows 'for every input' (looked for: loops, veiled, ifaces, maps, wideKeys, modest, calm, conditions, laid).
  DERIVED. THE GIVEN ROWS OF THIS SEAT. 12 by the template 'for every input the law returns true; each argument reads behind the call as it read before'; 0 by the template 'total and deterministic' (their statements: YtcagdjbinkadpaaTotals.lean).
  GIVEN WITH THE SEED: the statements are not yours to turn. If you find one false, say at which input.
  Laid BY PROGRAM, IN A SANDBOX (cutbox-rows.mjs): the forced cells as the released guide's own fill.sh prints them over the translation c65056422f431e97… (all of the seat's roots in one cut). By AI agents, Wed Nov 11 2026. No macro, syntax, notation, axiom, sorry.
-/
import Derived.Test.YtcagdjbinkadpaaChecked
import GoSem.Claim
import GoSem.ClaimJoined
import GoSem.ClaimMapViews
import Derived.JoinedTies
import Derived.KernelRfl
namespace Go.Proofs.Ytcagdjbinkadpaa
/- THE CELL 'sum', in the pinned program and in every row, IS THE sha256 OF THE DUMP (.gsa) THAT YtcagdjbinkadpaaProg.lean LOADS. Nothing in Lean hashes anything: it is a label: what it is worth is what the hold of that sum in a sandbox is worth. -/
noncomputable def Try.pinned : Pinned := { name := "ytcagdjbinkadpaa", sum := "c65056422f431e97065344d56c4cb69d9f498aa96b1f2a7a007c38c5921b0ea1", checked := Try.checked }
namespace Rows
def none {H : Type} : Left H := { results := [], args := [] }

/-- 'slipstreamlaw01.CellCollides': WHATEVER THE INPUT: true; the input reads as it did. -/
def cellCollidesSpec : ChangeSpec := { name := "cellCollides", fn := fun _ => fun
  | [d1, d2] => { results := [.lit (.bool true)], args := [d1, d2] }
  | _ => none }
def cellCollidesRow : OpenClaim := { program := "ytcagdjbinkadpaa", sum := "c65056422f431e97065344d56c4cb69d9f498aa96b1f2a7a007c38c5921b0ea1", func := "slipstream/slipstreamlaw01.CellCollides", spec := "cellCollides", unfollowed := true, recurses := true, apart := false }
def CellCollidesSaid : Prop := cellCollidesRow.holds Try.pinned (OpenSpec.ofChange cellCollidesSpec)

/-- ITS FALSE NEIGHBOUR: 'it returns false'. Refute it at one input. -/
def cellCollidesWrong : ChangeSpec := { name := "cellCollides", fn := fun _ => fun
  | [d1, d2] => { results := [.lit (.bool false)], args := [d1, d2] }
  | _ => none }
def CellCollidesWrongFalsely : Prop := cellCollidesRow.holds Try.pinned (OpenSpec.ofChange cellCollidesWrong)

/-- 'slipstreamlaw01.CellSame': WHATEVER THE INPUT: true; the input reads as it did. -/
def cellSameSpec : ChangeSpec := { name := "cellSame", fn := fun _ => fun
  | [d1, d2, d3] => { results := [.lit (.bool true)], args := [d1, d2, d3] }
  | _ => none }
def cellSameRow : OpenClaim := { program := "ytcagdjbinkadpaa", sum := "c65056422f431e97065344d56c4cb69d9f498aa96b1f2a7a007c38c5921b0ea1", func := "slipstream/slipstreamlaw01.CellSame", spec := "cellSame", unfollowed := true, recurses := true, apart := false }
def CellSameSaid : Prop := cellSameRow.holds Try.pinned (OpenSpec.ofChange cellSameSpec)

/-- ITS FALSE NEIGHBOUR: 'it returns false'. Refute it at one input. -/
def cellSameWrong : ChangeSpec := { name := "cellSame", fn := fun _ => fun
  | [d1, d2, d3] => { results := [.lit (.bool false)], args := [d1, d2, d3] }
  | _ => none }
def CellSameWrongFalsely : Prop := cellSameRow.holds Try.pinned (OpenSpec.ofChange cellSameWrong)

/-- 'slipstreamlaw01.CellTurns': WHATEVER THE INPUT: true; the input reads as it did. -/
def cellTurnsSpec : ChangeSpec := { name := "cellTurns", fn := fun _ => fun
  | [d1, d2, d3] => { results := [.lit (.bool true)], args := [d1, d2, d3] }
  | _ => none }
def cellTurnsRow : OpenClaim := { program := "ytcagdjbinkadpaa", sum := "c65056422f431e97065344d56c4cb69d9f498aa96b1f2a7a007c38c5921b0ea1", func := "slipstream/slipstreamlaw01.CellTurns", spec := "cellTurns", unfollowed := true, recurses := true, apart := false }
def CellTurnsSaid : Prop := cellTurnsRow.holds Try.pinned (OpenSpec.ofChange cellTurnsSpec)

/-- ITS FALSE NEIGHBOUR: 'it returns false'. Refute it at one input. -/
def cellTurnsWrong : ChangeSpec := { name := "cellTurns", fn := fun _ => fun
  | [d1, d2, d3] => { results := [.lit (.bool false)], args := [d1, d2, d3] }
  | _ => none }
def CellTurnsWrongFalsely : Prop := cellTurnsRow.holds Try.pinned (OpenSpec.ofChange cellTurnsWrong)

/-- 'slipstreamlaw01.CellSums': WHATEVER THE INPUT: true; the input reads as it did. -/
def cellSumsSpec : ChangeSpec := { name := "cellSums", fn := fun _ => fun
  | [d1, d2] => { results := [.lit (.bool true)], args := [d1, d2] }
  | _ => none }
def cellSumsRow : OpenClaim := { program := "ytcagdjbinkadpaa", sum := "c65056422f431e97065344d56c4cb69d9f498aa96b1f2a7a007c38c5921b0ea1", func := "slipstream/slipstreamlaw01.CellSums", spec := "cellSums", unfollowed := true, recurses := true, apart := false }
def CellSumsSaid : Prop := cellSumsRow.holds Try.pinned (OpenSpec.ofChange cellSumsSpec)

/-- ITS FALSE NEIGHBOUR: 'it returns false'. Refute it at one input. -/
def cellSumsWrong : ChangeSpec := { name := "cellSums", fn := fun _ => fun
  | [d1, d2] => { results := [.lit (.bool false)], args := [d1, d2] }
  | _ => none }
def CellSumsWrongFalsely : Prop := cellSumsRow.holds Try.pinned (OpenSpec.ofChange cellSumsWrong)

/-- 'slipstreamlaw01.CellOrders': WHATEVER THE INPUT: true; the input reads as it did. -/
def cellOrdersSpec : ChangeSpec := { name := "cellOrders", fn := fun _ => fun
  | [d1, d2] => { results := [.lit (.bool true)], args := [d1, d2] }
  | _ => none }
def cellOrdersRow : OpenClaim := { program := "ytcagdjbinkadpaa", sum := "c65056422f431e97065344d56c4cb69d9f498aa96b1f2a7a007c38c5921b0ea1", func := "slipstream/slipstreamlaw01.CellOrders", spec := "cellOrders", unfollowed := true, recurses := true, apart := false }
def CellOrdersSaid : Prop := cellOrdersRow.holds Try.pinned (OpenSpec.ofChange cellOrdersSpec)

/-- ITS FALSE NEIGHBOUR: 'it returns false'. Refute it at one input. -/
def cellOrdersWrong : ChangeSpec := { name := "cellOrders", fn := fun _ => fun
  | [d1, d2] => { results := [.lit (.bool false)], args := [d1, d2] }
  | _ => none }
def CellOrdersWrongFalsely : Prop := cellOrdersRow.holds Try.pinned (OpenSpec.ofChange cellOrdersWrong)

/-- 'slipstreamlaw01.CellKept': WHATEVER THE INPUT: true; the input reads as it did. -/
def cellKeptSpec : ChangeSpec := { name := "cellKept", fn := fun _ => fun
  | [d1, d2] => { results := [.lit (.bool true)], args := [d1, d2] }
  | _ => none }
def cellKeptRow : OpenClaim := { program := "ytcagdjbinkadpaa", sum := "c65056422f431e97065344d56c4cb69d9f498aa96b1f2a7a007c38c5921b0ea1", func := "slipstream/slipstreamlaw01.CellKept", spec := "cellKept", unfollowed := true, recurses := true, apart := false }
def CellKeptSaid : Prop := cellKeptRow.holds Try.pinned (OpenSpec.ofChange cellKeptSpec)

/-- ITS FALSE NEIGHBOUR: 'it returns false'. Refute it at one input. -/
def cellKeptWrong : ChangeSpec := { name := "cellKept", fn := fun _ => fun
  | [d1, d2] => { results := [.lit (.bool false)], args := [d1, d2] }
  | _ => none }
def CellKeptWrongFalsely : Prop := cellKeptRow.holds Try.pinned (OpenSpec.ofChange cellKeptWrong)

/-- 'slipstreamlaw01.CellAdds': WHATEVER THE INPUT: true; the input reads as it did. -/
def cellAddsSpec : ChangeSpec := { name := "cellAdds", fn := fun _ => fun
  | [d1, d2] => { results := [.lit (.bool true)], args := [d1, d2] }
  | _ => none }
def cellAddsRow : OpenClaim := { program := "ytcagdjbinkadpaa", sum := "c65056422f431e97065344d56c4cb69d9f498aa96b1f2a7a007c38c5921b0ea1", func := "slipstream/slipstreamlaw01.CellAdds", spec := "cellAdds", unfollowed := true, recurses := true, apart := false }
def CellAddsSaid : Prop := cellAddsRow.holds Try.pinned (OpenSpec.ofChange cellAddsSpec)

/-- ITS FALSE NEIGHBOUR: 'it returns false'. Refute it at one input. -/
def cellAddsWrong : ChangeSpec := { name := "cellAdds", fn := fun _ => fun
  | [d1, d2] => { results := [.lit (.bool false)], args := [d1, d2] }
  | _ => none }
def CellAddsWrongFalsely : Prop := cellAddsRow.holds Try.pinned (OpenSpec.ofChange cellAddsWrong)

/-- 'slipstreamlaw01.CellRules': WHATEVER THE INPUT: true; the input reads as it did. -/
def cellRulesSpec : ChangeSpec := { name := "cellRules", fn := fun _ => fun
  | [d1, d2] => { results := [.lit (.bool true)], args := [d1, d2] }
  | _ => none }
def cellRulesRow : OpenClaim := { program := "ytcagdjbinkadpaa", sum := "c65056422f431e97065344d56c4cb69d9f498aa96b1f2a7a007c38c5921b0ea1", func := "slipstream/slipstreamlaw01.CellRules", spec := "cellRules", unfollowed := true, recurses := true, apart := false }
def CellRulesSaid : Prop := cellRulesRow.holds Try.pinned (OpenSpec.ofChange cellRulesSpec)

/-- ITS FALSE NEIGHBOUR: 'it returns false'. Refute it at one input. -/
def cellRulesWrong : ChangeSpec := { name := "cellRules", fn := fun _ => fun
  | [d1, d2] => { results := [.lit (.bool false)], args := [d1, d2] }
  | _ => none }
def CellRulesWrongFalsely : Prop := cellRulesRow.holds Try.pinned (OpenSpec.ofChange cellRulesWrong)

/-- 'slipstreamlaw01.CellClasses': WHATEVER THE INPUT: true; the input reads as it did. -/
def cellClassesSpec : ChangeSpec := { name := "cellClasses", fn := fun _ => fun
  | [d1, d2] => { results := [.lit (.bool true)], args := [d1, d2] }
  | _ => none }
def cellClassesRow : OpenClaim := { program := "ytcagdjbinkadpaa", sum := "c65056422f431e97065344d56c4cb69d9f498aa96b1f2a7a007c38c5921b0ea1", func := "slipstream/slipstreamlaw01.CellClasses", spec := "cellClasses", unfollowed := true, recurses := true, apart := false }
def CellClassesSaid : Prop := cellClassesRow.holds Try.pinned (OpenSpec.ofChange cellClassesSpec)

/-- ITS FALSE NEIGHBOUR: 'it returns false'. Refute it at one input. -/
def cellClassesWrong : ChangeSpec := { name := "cellClasses", fn := fun _ => fun
  | [d1, d2] => { results := [.lit (.bool false)], args := [d1, d2] }
  | _ => none }
def CellClassesWrongFalsely : Prop := cellClassesRow.holds Try.pinned (OpenSpec.ofChange cellClassesWrong)

/-- 'slipstreamlaw04.PhaseExchanges': WHATEVER THE INPUT: true; the input reads as it did. -/
def phaseExchangesSpec : ChangeSpec := { name := "phaseExchanges", fn := fun _ => fun
  | [d1, d2, d3] => { results := [.lit (.bool true)], args := [d1, d2, d3] }
  | _ => none }
def phaseExchangesRow : OpenClaim := { program := "ytcagdjbinkadpaa", sum := "c65056422f431e97065344d56c4cb69d9f498aa96b1f2a7a007c38c5921b0ea1", func := "slipstream/slipstreamlaw04.PhaseExchanges", spec := "phaseExchanges", unfollowed := true, recurses := true, apart := false }
def PhaseExchangesSaid : Prop := phaseExchangesRow.holds Try.pinned (OpenSpec.ofChange phaseExchangesSpec)

/-- ITS FALSE NEIGHBOUR: 'it returns false'. Refute it at one input. -/
def phaseExchangesWrong : ChangeSpec := { name := "phaseExchanges", fn := fun _ => fun
  | [d1, d2, d3] => { results := [.lit (.bool false)], args := [d1, d2, d3] }
  | _ => none }
def PhaseExchangesWrongFalsely : Prop := phaseExchangesRow.holds Try.pinned (OpenSpec.ofChange phaseExchangesWrong)

/-- 'slipstreamlaw06.LevelRefines': WHATEVER THE INPUT: true; the input reads as it did. -/
def levelRefinesSpec : ChangeSpec := { name := "levelRefines", fn := fun _ => fun
  | [d] => { results := [.lit (.bool true)], args := [d] }
  | _ => none }
def levelRefinesRow : OpenClaim := { program := "ytcagdjbinkadpaa", sum := "c65056422f431e97065344d56c4cb69d9f498aa96b1f2a7a007c38c5921b0ea1", func := "slipstream/slipstreamlaw06.LevelRefines", spec := "levelRefines", unfollowed := true, recurses := true, apart := false }
def LevelRefinesSaid : Prop := levelRefinesRow.holds Try.pinned (OpenSpec.ofChange levelRefinesSpec)

/-- ITS FALSE NEIGHBOUR: 'it returns false'. Refute it at one input. -/
def levelRefinesWrong : ChangeSpec := { name := "levelRefines", fn := fun _ => fun
  | [d] => { results := [.lit (.bool false)], args := [d] }
  | _ => none }
def LevelRefinesWrongFalsely : Prop := levelRefinesRow.holds Try.pinned (OpenSpec.ofChange levelRefinesWrong)

/-- 'slipstreamlaw07.GaugeMore': WHATEVER THE INPUT: true; the input reads as it did. -/
def gaugeMoreSpec : ChangeSpec := { name := "gaugeMore", fn := fun _ => fun
  | [d1, d2, d3, d4] => { results := [.lit (.bool true)], args := [d1, d2, d3, d4] }
  | _ => none }
def gaugeMoreRow : OpenClaim := { program := "ytcagdjbinkadpaa", sum := "c65056422f431e97065344d56c4cb69d9f498aa96b1f2a7a007c38c5921b0ea1", func := "slipstream/slipstreamlaw07.GaugeMore", spec := "gaugeMore", unfollowed := true, recurses := true, apart := false }
def GaugeMoreSaid : Prop := gaugeMoreRow.holds Try.pinned (OpenSpec.ofChange gaugeMoreSpec)

/-- ITS FALSE NEIGHBOUR: 'it returns false'. Refute it at one input. -/
def gaugeMoreWrong : ChangeSpec := { name := "gaugeMore", fn := fun _ => fun
  | [d1, d2, d3, d4] => { results := [.lit (.bool false)], args := [d1, d2, d3, d4] }
  | _ => none }
def GaugeMoreWrongFalsely : Prop := gaugeMoreRow.holds Try.pinned (OpenSpec.ofChange gaugeMoreWrong)

/- THE SECOND FORM. 'bulk': how many values and letters a reading holds, each counted each time it is reached (what is shared counts as often as it is met; a slice's spare places count too). A statement '..UptoSaid' is the law's where the arguments, and the package variables that the reading takes, are together of bulk at most 1048576: NARROWER than '..Said'. Prove '..Said' where nothing that the law and all that it calls make is longer than what came in: it says more and counts as full. Else prove '..UptoSaid'. A law counts once. -/
mutual
def uptoBulk {H : Type} : DataW H → Nat
  | .lit (.string bytes) => bytes.length + 1
  | .lit _ => 1
  | .nil => 1
  | .ptr d => uptoBulk d + 1
  | .slice elems spare => uptoBulkAll elems + uptoBulkAll spare + 1
  | .agg parts => uptoBulkAll parts + 1
  | .iface _ d => uptoBulk d + 1
  | .map entries => uptoBulkEntries entries + 1
  | .held _ => 1
def uptoBulkAll {H : Type} : List (DataW H) → Nat
  | [] => 0
  | d :: r => uptoBulk d + uptoBulkAll r
def uptoBulkEntries {H : Type} : List (Lit × DataW H) → Nat
  | [] => 0
  | x :: r => uptoBulkEntry x + uptoBulkEntries r
def uptoBulkEntry {H : Type} : Lit × DataW H → Nat
  | (.string bytes, d) => bytes.length + uptoBulk d + 1
  | (_, d) => uptoBulk d + 1
 end
def uptoSmall : (H : Type) → List (DataW H) → Bool := fun _ ds => decide (uptoBulkAll ds ≤ 1048576)
def OpenSpec.upto (s : _root_.Go.ChangeSpec) : _root_.Go.OpenSpec := { _root_.Go.OpenSpec.ofChange s with cond := some uptoSmall }

/-- 'slipstreamlaw01.CellCollides', WHERE WHAT IT READS IS OF BULK AT MOST 1048576: true; the input reads as it did. -/
def cellCollidesUptoRow : OpenClaim := { program := "ytcagdjbinkadpaa", sum := "c65056422f431e97065344d56c4cb69d9f498aa96b1f2a7a007c38c5921b0ea1", func := "slipstream/slipstreamlaw01.CellCollides", spec := "cellCollides", unfollowed := true, recurses := true, apart := false, narrowed := true }
def CellCollidesUptoSaid : Prop := cellCollidesUptoRow.holds Try.pinned (OpenSpec.upto cellCollidesSpec)

/-- 'slipstreamlaw01.CellSame', WHERE WHAT IT READS IS OF BULK AT MOST 1048576: true; the input reads as it did. -/
def cellSameUptoRow : OpenClaim := { program := "ytcagdjbinkadpaa", sum := "c65056422f431e97065344d56c4cb69d9f498aa96b1f2a7a007c38c5921b0ea1", func := "slipstream/slipstreamlaw01.CellSame", spec := "cellSame", unfollowed := true, recurses := true, apart := false, narrowed := true }
def CellSameUptoSaid : Prop := cellSameUptoRow.holds Try.pinned (OpenSpec.upto cellSameSpec)

/-- 'slipstreamlaw01.CellTurns', WHERE WHAT IT READS IS OF BULK AT MOST 1048576: true; the input reads as it did. -/
def cellTurnsUptoRow : OpenClaim := { program := "ytcagdjbinkadpaa", sum := "c65056422f431e97065344d56c4cb69d9f498aa96b1f2a7a007c38c5921b0ea1", func := "slipstream/slipstreamlaw01.CellTurns", spec := "cellTurns", unfollowed := true, recurses := true, apart := false, narrowed := true }
def CellTurnsUptoSaid : Prop := cellTurnsUptoRow.holds Try.pinned (OpenSpec.upto cellTurnsSpec)

/-- 'slipstreamlaw01.CellSums', WHERE WHAT IT READS IS OF BULK AT MOST 1048576: true; the input reads as it did. -/
def cellSumsUptoRow : OpenClaim := { program := "ytcagdjbinkadpaa", sum := "c65056422f431e97065344d56c4cb69d9f498aa96b1f2a7a007c38c5921b0ea1", func := "slipstream/slipstreamlaw01.CellSums", spec := "cellSums", unfollowed := true, recurses := true, apart := false, narrowed := true }
def CellSumsUptoSaid : Prop := cellSumsUptoRow.holds Try.pinned (OpenSpec.upto cellSumsSpec)

/-- 'slipstreamlaw01.CellOrders', WHERE WHAT IT READS IS OF BULK AT MOST 1048576: true; the input reads as it did. -/
def cellOrdersUptoRow : OpenClaim := { program := "ytcagdjbinkadpaa", sum := "c65056422f431e97065344d56c4cb69d9f498aa96b1f2a7a007c38c5921b0ea1", func := "slipstream/slipstreamlaw01.CellOrders", spec := "cellOrders", unfollowed := true, recurses := true, apart := false, narrowed := true }
def CellOrdersUptoSaid : Prop := cellOrdersUptoRow.holds Try.pinned (OpenSpec.upto cellOrdersSpec)

/-- 'slipstreamlaw01.CellKept', WHERE WHAT IT READS IS OF BULK AT MOST 1048576: true; the input reads as it did. -/
def cellKeptUptoRow : OpenClaim := { program := "ytcagdjbinkadpaa", sum := "c65056422f431e97065344d56c4cb69d9f498aa96b1f2a7a007c38c5921b0ea1", func := "slipstream/slipstreamlaw01.CellKept", spec := "cellKept", unfollowed := true, recurses := true, apart := false, narrowed := true }
def CellKeptUptoSaid : Prop := cellKeptUptoRow.holds Try.pinned (OpenSpec.upto cellKeptSpec)

/-- 'slipstreamlaw01.CellAdds', WHERE WHAT IT READS IS OF BULK AT MOST 1048576: true; the input reads as it did. -/
def cellAddsUptoRow : OpenClaim := { program := "ytcagdjbinkadpaa", sum := "c65056422f431e97065344d56c4cb69d9f498aa96b1f2a7a007c38c5921b0ea1", func := "slipstream/slipstreamlaw01.CellAdds", spec := "cellAdds", unfollowed := true, recurses := true, apart := false, narrowed := true }
def CellAddsUptoSaid : Prop := cellAddsUptoRow.holds Try.pinned (OpenSpec.upto cellAddsSpec)

/-- 'slipstreamlaw01.CellRules', WHERE WHAT IT READS IS OF BULK AT MOST 1048576: true; the input reads as it did. -/
def cellRulesUptoRow : OpenClaim := { program := "ytcagdjbinkadpaa", sum := "c65056422f431e97065344d56c4cb69d9f498aa96b1f2a7a007c38c5921b0ea1", func := "slipstream/slipstreamlaw01.CellRules", spec := "cellRules", unfollowed := true, recurses := true, apart := false, narrowed := true }
def CellRulesUptoSaid : Prop := cellRulesUptoRow.holds Try.pinned (OpenSpec.upto cellRulesSpec)

/-- 'slipstreamlaw01.CellClasses', WHERE WHAT IT READS IS OF BULK AT MOST 1048576: true; the input reads as it did. -/
def cellClassesUptoRow : OpenClaim := { program := "ytcagdjbinkadpaa", sum := "c65056422f431e97065344d56c4cb69d9f498aa96b1f2a7a007c38c5921b0ea1", func := "slipstream/slipstreamlaw01.CellClasses", spec := "cellClasses", unfollowed := true, recurses := true, apart := false, narrowed := true }
def CellClassesUptoSaid : Prop := cellClassesUptoRow.holds Try.pinned (OpenSpec.upto cellClassesSpec)

/-- 'slipstreamlaw04.PhaseExchanges', WHERE WHAT IT READS IS OF BULK AT MOST 1048576: true; the input reads as it did. -/
def phaseExchangesUptoRow : OpenClaim := { program := "ytcagdjbinkadpaa", sum := "c65056422f431e97065344d56c4cb69d9f498aa96b1f2a7a007c38c5921b0ea1", func := "slipstream/slipstreamlaw04.PhaseExchanges", spec := "phaseExchanges", unfollowed := true, recurses := true, apart := false, narrowed := true }
def PhaseExchangesUptoSaid : Prop := phaseExchangesUptoRow.holds Try.pinned (OpenSpec.upto phaseExchangesSpec)

/-- 'slipstreamlaw06.LevelRefines', WHERE WHAT IT READS IS OF BULK AT MOST 1048576: true; the input reads as it did. -/
def levelRefinesUptoRow : OpenClaim := { program := "ytcagdjbinkadpaa", sum := "c65056422f431e97065344d56c4cb69d9f498aa96b1f2a7a007c38c5921b0ea1", func := "slipstream/slipstreamlaw06.LevelRefines", spec := "levelRefines", unfollowed := true, recurses := true, apart := false, narrowed := true }
def LevelRefinesUptoSaid : Prop := levelRefinesUptoRow.holds Try.pinned (OpenSpec.upto levelRefinesSpec)

/-- 'slipstreamlaw07.GaugeMore', WHERE WHAT IT READS IS OF BULK AT MOST 1048576: true; the input reads as it did. -/
def gaugeMoreUptoRow : OpenClaim := { program := "ytcagdjbinkadpaa", sum := "c65056422f431e97065344d56c4cb69d9f498aa96b1f2a7a007c38c5921b0ea1", func := "slipstream/slipstreamlaw07.GaugeMore", spec := "gaugeMore", unfollowed := true, recurses := true, apart := false, narrowed := true }
def GaugeMoreUptoSaid : Prop := gaugeMoreUptoRow.holds Try.pinned (OpenSpec.upto gaugeMoreSpec)

end Rows
end Go.Proofs.Ytcagdjbinkadpaa

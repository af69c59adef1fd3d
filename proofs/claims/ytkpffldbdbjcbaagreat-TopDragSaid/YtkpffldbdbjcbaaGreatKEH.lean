/- Contracts: what the functions hand back. -/
import Derived.Test.YtkpffldbdbjcbaaGreatKEG
set_option linter.unusedSimpArgs false
set_option linter.unusedVariables false
set_option maxRecDepth 100000
namespace Go.Proofs.YtkpffldbdbjcbaaGreat
open Go.Sy Go.RowKit

noncomputable def X_gauge_extreme_api_Span : Env Tryz.prog := ⟨Tryz.f75.ntmps, TT, G46, E15, Tryz.f75.results.toList, [(8, .h [0, 1, 2, 3, 5, 6, 7] (.pure 0 (.pure 1 (.pure 2 (.pure 3 (.s1 4 [] (.pure 5 (.pure 6 (.pure 7 (.done))))))))))], TT_ok, okG46, okE15, mixed⟩
noncomputable def code_gauge_extreme_api_Span : Code := match Tryz.f75.body with | some c => c | none => .skip
theorem k_gauge_extreme_api_Span : EOk Tryz.prog 75 (inl X_gauge_extreme_api_Span code_gauge_extreme_api_Span) := inl_ok X_gauge_extreme_api_Span Tryz.func75 rfl (by kernel_rfl) rfl rfl
noncomputable def E16 : List (Nat × ECtr) := (75, inl X_gauge_extreme_api_Span code_gauge_extreme_api_Span) :: E15
theorem okE16 : EsOk Tryz.prog E16 := EsOk.cons k_gauge_extreme_api_Span okE15
end Go.Proofs.YtkpffldbdbjcbaaGreat

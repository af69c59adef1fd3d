/- Contracts: what the functions hand back. -/
import Derived.Test.YtijealodlgdgaaaKKD
set_option linter.unusedSimpArgs false
set_option linter.unusedVariables false
set_option maxRecDepth 100000
namespace Go.Proofs.Ytijealodlgdgaaa
open Go.Sy Go.RowKit

noncomputable def X_gauge_extreme_api_Span : Env Try.prog := ⟨Try.f42.ntmps, TT, G22, E6, Try.f42.results.toList, [(8, .h [0, 1, 2, 3, 5, 6, 7] (.pure 0 (.pure 1 (.pure 2 (.pure 3 (.s1 4 [] (.pure 5 (.pure 6 (.pure 7 (.done))))))))))], TT_ok, okG22, okE6, mixed⟩
noncomputable def code_gauge_extreme_api_Span : Code := match Try.f42.body with | some c => c | none => .skip
theorem k_gauge_extreme_api_Span : EOk Try.prog 42 (inl X_gauge_extreme_api_Span code_gauge_extreme_api_Span) := inl_ok X_gauge_extreme_api_Span Try.func42 rfl (by kernel_rfl) rfl rfl
noncomputable def E7 : List (Nat × ECtr) := (42, inl X_gauge_extreme_api_Span code_gauge_extreme_api_Span) :: E6
theorem okE7 : EsOk Try.prog E7 := EsOk.cons k_gauge_extreme_api_Span okE6
end Go.Proofs.Ytijealodlgdgaaa

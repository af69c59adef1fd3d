/- Contracts: what the functions hand back. -/
import Derived.Test.YtjkdbnccgaheeaaKBE
set_option linter.unusedSimpArgs false
set_option linter.unusedVariables false
set_option maxRecDepth 100000
namespace Go.Proofs.Ytjkdbnccgaheeaa
open Go.Sy Go.RowKit

noncomputable def X_gauge_extreme_api_Span : Env Try.prog := ⟨Try.f55.ntmps, TT, G51, E9, Try.f55.results.toList, [(8, .h [0, 1, 2, 3, 5, 6, 7] (.pure 0 (.pure 1 (.pure 2 (.pure 3 (.s1 4 [] (.pure 5 (.pure 6 (.pure 7 (.done))))))))))], TT_ok, okG51, okE9, mixed⟩
noncomputable def code_gauge_extreme_api_Span : Code := match Try.f55.body with | some c => c | none => .skip
theorem k_gauge_extreme_api_Span : EOk Try.prog 55 (inl X_gauge_extreme_api_Span code_gauge_extreme_api_Span) := inl_ok X_gauge_extreme_api_Span Try.func55 rfl (by kernel_rfl) rfl rfl
noncomputable def E10 : List (Nat × ECtr) := (55, inl X_gauge_extreme_api_Span code_gauge_extreme_api_Span) :: E9
theorem okE10 : EsOk Try.prog E10 := EsOk.cons k_gauge_extreme_api_Span okE9
end Go.Proofs.Ytjkdbnccgaheeaa

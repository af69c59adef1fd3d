/- Contracts: what the functions hand back. -/
import Derived.Test.YtfoacdhlfaonaaaKFC
set_option linter.unusedSimpArgs false
set_option linter.unusedVariables false
set_option maxRecDepth 100000
namespace Go.Proofs.Ytfoacdhlfaonaaa
open Go.Sy Go.RowKit

noncomputable def X_strings_Builder_copyCheck : Env Try.prog := ⟨Try.f39.ntmps, TT, G32, E2, Try.f39.results.toList, [], TT_ok, okG32, okE2, mixed⟩
noncomputable def code_strings_Builder_copyCheck : Code := match Try.f39.body with | some c => c | none => .skip
theorem k_strings_Builder_copyCheck : EOk Try.prog 39 (inl X_strings_Builder_copyCheck code_strings_Builder_copyCheck) := inl_ok X_strings_Builder_copyCheck Try.func39 rfl (by kernel_rfl) rfl rfl
noncomputable def E3 : List (Nat × ECtr) := (39, inl X_strings_Builder_copyCheck code_strings_Builder_copyCheck) :: E2
theorem okE3 : EsOk Try.prog E3 := EsOk.cons k_strings_Builder_copyCheck okE2
noncomputable def X_strings_Builder_WriteByte : Env Try.prog := ⟨Try.f25.ntmps, TT, G32, E3, Try.f25.results.toList, [], TT_ok, okG32, okE3, mixed⟩
noncomputable def code_strings_Builder_WriteByte : Code := match Try.f25.body with | some c => c | none => .skip
theorem k_strings_Builder_WriteByte : EOk Try.prog 25 (inl X_strings_Builder_WriteByte code_strings_Builder_WriteByte) := inl_ok X_strings_Builder_WriteByte Try.func25 rfl (by kernel_rfl) rfl rfl
noncomputable def E4 : List (Nat × ECtr) := (25, inl X_strings_Builder_WriteByte code_strings_Builder_WriteByte) :: E3
theorem okE4 : EsOk Try.prog E4 := EsOk.cons k_strings_Builder_WriteByte okE3
noncomputable def X_strings_Builder_String : Env Try.prog := ⟨Try.f26.ntmps, TT, G32, E4, Try.f26.results.toList, [(1, .h [0, 1, 2, 3, 5, 6, 7, 8, 9, 11] (.pure 0 (.pure 1 (.pure 2 (.pure 3 (.pure 5 (.pure 6 (.pure 7 (.pure 8 (.pure 9 (.s1 4 [3] (.s1 10 [8] (.pure 11 (.done))))))))))))))], TT_ok, okG32, okE4, mixed⟩
noncomputable def code_strings_Builder_String : Code := match Try.f26.body with | some c => c | none => .skip
theorem k_strings_Builder_String : EOk Try.prog 26 (inl X_strings_Builder_String code_strings_Builder_String) := inl_ok X_strings_Builder_String Try.func26 rfl (by kernel_rfl) rfl rfl
noncomputable def E5 : List (Nat × ECtr) := (26, inl X_strings_Builder_String code_strings_Builder_String) :: E4
theorem okE5 : EsOk Try.prog E5 := EsOk.cons k_strings_Builder_String okE4
noncomputable def X_field_Path : Env Try.prog := ⟨Try.f12.ntmps, TT, G32, E5, Try.f12.results.toList, [], TT_ok, okG32, okE5, mixed⟩
noncomputable def code_field_Path : Code := match Try.f12.body with | some c => c | none => .skip
theorem k_field_Path : EOk Try.prog 12 (inl X_field_Path code_field_Path) := inl_ok X_field_Path Try.func12 rfl (by kernel_rfl) rfl rfl
noncomputable def E6 : List (Nat × ECtr) := (12, inl X_field_Path code_field_Path) :: E5
theorem okE6 : EsOk Try.prog E6 := EsOk.cons k_field_Path okE5
noncomputable def X_field_Picture : Env Try.prog := ⟨Try.f8.ntmps, TT, G32, E6, Try.f8.results.toList, [(11, .x [0, 1, 2, 3, 4, 5, 6, 7, 8, 9, 10, 11, 12, 13, 14] [] (.done))], TT_ok, okG32, okE6, mixed⟩
noncomputable def code_field_Picture : Code := match Try.f8.body with | some c => c | none => .skip
theorem k_field_Picture : EOk Try.prog 8 (inl X_field_Picture code_field_Picture) := inl_ok X_field_Picture Try.func8 rfl (by kernel_rfl) rfl rfl
noncomputable def E7 : List (Nat × ECtr) := (8, inl X_field_Picture code_field_Picture) :: E6
theorem okE7 : EsOk Try.prog E7 := EsOk.cons k_field_Picture okE6
end Go.Proofs.Ytfoacdhlfaonaaa

/- Contracts: what the functions hand back. -/
import Derived.Test.YtbcajalaopjmdaaKGF
set_option linter.unusedSimpArgs false
set_option linter.unusedVariables false
set_option maxRecDepth 100000
namespace Go.Proofs.Ytbcajalaopjmdaa
open Go.Sy Go.RowKit

noncomputable def X_grid_Turned_1x2 : Env Try.prog := ⟨Try.f88.ntmps, TT, G50, E14, Try.f88.results.toList, [], TT_ok, okG50, okE14, mixed⟩
noncomputable def code_grid_Turned_1x2 : Code := match Try.f88.body with | some c => c | none => .skip
theorem k_grid_Turned_1x2 : EOk Try.prog 88 (inl X_grid_Turned_1x2 code_grid_Turned_1x2) := inl_ok X_grid_Turned_1x2 Try.func88 rfl (by kernel_rfl) rfl rfl
noncomputable def E15 : List (Nat × ECtr) := (88, inl X_grid_Turned_1x2 code_grid_Turned_1x2) :: E14
theorem okE15 : EsOk Try.prog E15 := EsOk.cons k_grid_Turned_1x2 okE14
noncomputable def X_grid_Mirrored_1x1 : Env Try.prog := ⟨Try.f91.ntmps, TT, G50, E15, Try.f91.results.toList, [], TT_ok, okG50, okE15, mixed⟩
noncomputable def code_grid_Mirrored_1x1 : Code := match Try.f91.body with | some c => c | none => .skip
theorem k_grid_Mirrored_1x1 : EOk Try.prog 91 (inl X_grid_Mirrored_1x1 code_grid_Mirrored_1x1) := inl_ok X_grid_Mirrored_1x1 Try.func91 rfl (by kernel_rfl) rfl rfl
noncomputable def E16 : List (Nat × ECtr) := (91, inl X_grid_Mirrored_1x1 code_grid_Mirrored_1x1) :: E15
theorem okE16 : EsOk Try.prog E16 := EsOk.cons k_grid_Mirrored_1x1 okE15
noncomputable def X_grid_Mirrored_1x2 : Env Try.prog := ⟨Try.f92.ntmps, TT, G50, E16, Try.f92.results.toList, [], TT_ok, okG50, okE16, mixed⟩
noncomputable def code_grid_Mirrored_1x2 : Code := match Try.f92.body with | some c => c | none => .skip
theorem k_grid_Mirrored_1x2 : EOk Try.prog 92 (inl X_grid_Mirrored_1x2 code_grid_Mirrored_1x2) := inl_ok X_grid_Mirrored_1x2 Try.func92 rfl (by kernel_rfl) rfl rfl
noncomputable def E17 : List (Nat × ECtr) := (92, inl X_grid_Mirrored_1x2 code_grid_Mirrored_1x2) :: E16
theorem okE17 : EsOk Try.prog E17 := EsOk.cons k_grid_Mirrored_1x2 okE16
noncomputable def X_grid_field_moved : Env Try.prog := ⟨Try.f81.ntmps, TT, G50, E17, Try.f81.results.toList, [(5, .x [0, 1, 2, 3, 4, 5, 6, 7] [] (.one 8 (.done)))], TT_ok, okG50, okE17, mixed⟩
noncomputable def code_grid_field_moved : Code := match Try.f81.body with | some c => c | none => .skip
theorem k_grid_field_moved : EOk Try.prog 81 (inl X_grid_field_moved code_grid_field_moved) := inl_ok X_grid_field_moved Try.func81 rfl (by kernel_rfl) rfl rfl
noncomputable def E18 : List (Nat × ECtr) := (81, inl X_grid_field_moved code_grid_field_moved) :: E17
theorem okE18 : EsOk Try.prog E18 := EsOk.cons k_grid_field_moved okE17
noncomputable def X_grid_Shifted_1 : Env Try.prog := ⟨Try.f79.ntmps, TT, G50, E18, Try.f79.results.toList, [(1, .x [0, 1, 2, 3, 4, 5, 6, 7, 8, 9] [10, 11] (.one 12 (.one 13 (.done)))), (2, .h [0, 1, 2, 3, 4, 5, 6, 8] (.pure 0 (.pure 1 (.pure 2 (.pure 3 (.pure 4 (.pure 5 (.pure 6 (.pure 8 (.s1 7 [3, 6] (.s1 9 [0] (.s1 10 [] (.done)))))))))))))], TT_ok, okG50, okE18, mixed⟩
noncomputable def code_grid_Shifted_1 : Code := match Try.f79.body with | some c => c | none => .skip
theorem k_grid_Shifted_1 : EOk Try.prog 79 (inl X_grid_Shifted_1 code_grid_Shifted_1) := inl_ok X_grid_Shifted_1 Try.func79 rfl (by kernel_rfl) rfl rfl
noncomputable def E19 : List (Nat × ECtr) := (79, inl X_grid_Shifted_1 code_grid_Shifted_1) :: E18
theorem okE19 : EsOk Try.prog E19 := EsOk.cons k_grid_Shifted_1 okE18
noncomputable def X_grid_Turned_1 : Env Try.prog := ⟨Try.f86.ntmps, TT, G50, E19, Try.f86.results.toList, [(1, .h [0, 1, 2, 3, 4, 5, 6, 8] (.pure 0 (.pure 1 (.pure 2 (.pure 3 (.pure 4 (.pure 5 (.pure 6 (.pure 8 (.s1 7 [3, 6] (.s1 9 [0] (.s1 10 [] (.done)))))))))))))], TT_ok, okG50, okE19, mixed⟩
noncomputable def code_grid_Turned_1 : Code := match Try.f86.body with | some c => c | none => .skip
theorem k_grid_Turned_1 : EOk Try.prog 86 (inl X_grid_Turned_1 code_grid_Turned_1) := inl_ok X_grid_Turned_1 Try.func86 rfl (by kernel_rfl) rfl rfl
noncomputable def E20 : List (Nat × ECtr) := (86, inl X_grid_Turned_1 code_grid_Turned_1) :: E19
theorem okE20 : EsOk Try.prog E20 := EsOk.cons k_grid_Turned_1 okE19
noncomputable def X_grid_Mirrored_1 : Env Try.prog := ⟨Try.f90.ntmps, TT, G50, E20, Try.f90.results.toList, [(1, .h [0, 1, 2, 3, 4, 5, 6, 8] (.pure 0 (.pure 1 (.pure 2 (.pure 3 (.pure 4 (.pure 5 (.pure 6 (.pure 8 (.s1 7 [3, 6] (.s1 9 [0] (.s1 10 [] (.done)))))))))))))], TT_ok, okG50, okE20, mixed⟩
noncomputable def code_grid_Mirrored_1 : Code := match Try.f90.body with | some c => c | none => .skip
theorem k_grid_Mirrored_1 : EOk Try.prog 90 (inl X_grid_Mirrored_1 code_grid_Mirrored_1) := inl_ok X_grid_Mirrored_1 Try.func90 rfl (by kernel_rfl) rfl rfl
noncomputable def E21 : List (Nat × ECtr) := (90, inl X_grid_Mirrored_1 code_grid_Mirrored_1) :: E20
theorem okE21 : EsOk Try.prog E21 := EsOk.cons k_grid_Mirrored_1 okE20
noncomputable def X_grid_Reversed_1 : Env Try.prog := ⟨Try.f74.ntmps, TT, G50, E21, Try.f74.results.toList, [(4, .x [0, 1, 2, 3, 4, 5, 6, 7, 8, 9] [] (.one 10 (.done)))], TT_ok, okG50, okE21, mixed⟩
noncomputable def code_grid_Reversed_1 : Code := match Try.f74.body with | some c => c | none => .skip
theorem k_grid_Reversed_1 : EOk Try.prog 74 (inl X_grid_Reversed_1 code_grid_Reversed_1) := inl_ok X_grid_Reversed_1 Try.func74 rfl (by kernel_rfl) rfl rfl
noncomputable def E22 : List (Nat × ECtr) := (74, inl X_grid_Reversed_1 code_grid_Reversed_1) :: E21
theorem okE22 : EsOk Try.prog E22 := EsOk.cons k_grid_Reversed_1 okE21
noncomputable def X_grid_Stream_1 : Env Try.prog := ⟨Try.f69.ntmps, TT, G50, E22, Try.f69.results.toList, [], TT_ok, okG50, okE22, mixed⟩
noncomputable def code_grid_Stream_1 : Code := match Try.f69.body with | some c => c | none => .skip
theorem k_grid_Stream_1 : EOk Try.prog 69 (inl X_grid_Stream_1 code_grid_Stream_1) := inl_ok X_grid_Stream_1 Try.func69 rfl (by kernel_rfl) rfl rfl
noncomputable def E23 : List (Nat × ECtr) := (69, inl X_grid_Stream_1 code_grid_Stream_1) :: E22
theorem okE23 : EsOk Try.prog E23 := EsOk.cons k_grid_Stream_1 okE22
noncomputable def X_grid_Unstream_1 : Env Try.prog := ⟨Try.f72.ntmps, TT, G50, E23, Try.f72.results.toList, [], TT_ok, okG50, okE23, mixed⟩
noncomputable def code_grid_Unstream_1 : Code := match Try.f72.body with | some c => c | none => .skip
theorem k_grid_Unstream_1 : EOk Try.prog 72 (inl X_grid_Unstream_1 code_grid_Unstream_1) := inl_ok X_grid_Unstream_1 Try.func72 rfl (by kernel_rfl) rfl rfl
noncomputable def E24 : List (Nat × ECtr) := (72, inl X_grid_Unstream_1 code_grid_Unstream_1) :: E23
theorem okE24 : EsOk Try.prog E24 := EsOk.cons k_grid_Unstream_1 okE23
noncomputable def X_grid_changed : Env Try.prog := ⟨Try.f68.ntmps, TT, G50, E24, Try.f68.results.toList, [], TT_ok, okG50, okE24, mixed⟩
noncomputable def code_grid_changed : Code := match Try.f68.body with | some c => c | none => .skip
theorem k_grid_changed : EOk Try.prog 68 (inl X_grid_changed code_grid_changed) := inl_ok X_grid_changed Try.func68 rfl (by kernel_rfl) rfl rfl
noncomputable def E25 : List (Nat × ECtr) := (68, inl X_grid_changed code_grid_changed) :: E24
theorem okE25 : EsOk Try.prog E25 := EsOk.cons k_grid_changed okE24
def c_grid_Stream : ECtr := fun args hp K => match args with
  | [x0] => g1 x0 hp fun g => (g.cs.length ≤ 1200) ∧ lenK hp 0 fun n => ∀ (ad : Option Nm) (cap bc : Nat), (0 < ((streamG (1) g).cs).length → ad.isSome = true) → (((streamG (1) g).cs).length ≤ cap ∧ cap ≤ 9223372036854775807) → appK hp ⟨ad, true, .wr 61 bc, .cx ((streamG (1) g).cs)⟩ fun hp' => K (.tup [.agg [.int .i64 (streamG (1) g).w, .int .i64 (streamG (1) g).h, .sl n ad 0 4 ((streamG (1) g).cs).length cap], .int .i64 g.err]) hp'
  | _ => False
noncomputable def X_grid_Stream : Env Try.prog := ⟨Try.f23.ntmps, TT, G50, E25, Try.f23.results.toList, [], TT_ok, okG50, okE25, mixed⟩
theorem k_grid_Stream : EOk Try.prog 23 c_grid_Stream :=
  eok_of_wk X_grid_Stream Try.func23 rfl (by kernel_rfl) rfl rfl fun args hp K hK => by
    unfold c_grid_Stream at hK
    split at hK
    · obtain ⟨g, ag, capg, hK1, e0, posg, vwg⟩ := iff_g1 hK; clear hK; have hK := hK1; clear hK1
      obtain ⟨hpre, hK⟩ := hK
      simp only [lenK_eq, appK_eq] at hK
      refine ⟨[.agg [.int .i64 g.w, .int .i64 g.h, .sl 0 ag 0 4 g.cs.length capg]], [⟨ag, false, .ro, .cx g.cs⟩], denL_cons (e0) (rfl), ⟨trivial, trivial⟩, fun w hw b hb => (by rw [List.mem_singleton] at hb; subst hb; exact vwg w hw), Nat.le_of_ble_eq_true rfl, ?_⟩
      refine Wk.nil 61 (.cx []) rfl ?_
      rcases stream_ways g (1) with ⟨hv, he, hG⟩ | ⟨hv, he, hG, hbb⟩ <;> rw [hG, he] at hK
      all_goals (repeat' (first | (refine Wk.op ?_; intro K' hK') | (refine Wk.xqOp ?_; intro K' hK') | (refine Wk.rgOne ?_; intro K' hK') | (refine Wk.rgPure ?_; intro K' hK') | (refine Wk.rgX ?_; intro K' hK') | (refine Wk.xqNew ?_; intro K' hK') | (refine Wk.xqEnd ?_) | (refine Wk.rgDone ?_) | (refine Wk.rgTwo ?_ ?_ <;> intro K' hK') | (refine Wk.rgH ?_ ?_) | (refine Wk.rsTake ?_; intro K' hK') | (refine Wk.rsOne ?_ (fun K' hK' => ?_)) | (refine Wk.rsTwo ?_ ?_ (fun K' hK' => ?_) (fun K' hK' => ?_)) | (refine Wk.rsDone ?_) | (refine hK' _ _ ?_ ?_ <;> clear hK' K') | (refine hK' _ _ ?_; clear hK' K') | (refine hK' _ ?_; clear hK' K') | (refine hKT _ ?_; clear hKT hKF KT KF) | (refine hKF _ ?_; clear hKT hKF KT KF) | (refine Wk.cond ?_; intro KT KF hKT hKF) | (refine Wk.ret ?_) | (refine Wk.draw ?_ ?_ ?_; rotate_left 2; (intro K' hK')) | (refine Wk.step rfl ?_) | (refine Wk.done ?_) | (refine Fin.plain trivial ?_) | ((with_reducible refine top_goal ?_); kernel_rfl) | ((with_reducible refine takes_goal ?_); kernel_rfl) | ((with_reducible refine drop_goal ?_); kernel_rfl) | ((with_reducible refine held_goal ?_); (repeat refine And.intro rfl ?_); exact trivial) | ((with_reducible refine allB_goal ?_); kernel_rfl) | ((with_reducible refine mine_goal ?_); exact mine_of rfl) | ((with_reducible refine withV_goal ?_); refine withV_mk rfl ?_) | ((with_reducible refine hsel_goal ?_); (first | (exact hsel.nil) | (refine hsel.take (HB.like.refl _) (.inr fun _ h => h) ?_) | (refine hsel.take (like_cts ?_) (.inl rfl) ?_) | (refine hsel.skip (spare_own rfl rfl) ?_) | (refine hsel.skip spare_ro ?_))) | (refine And.intro ?_ ?_) | (intro hq; (try simp only [BF.H, Cel.eta, Rul.eta, Grd.eta, if_true, if_false, Int.toNat_natCast, Nat.add_zero] at hq); (try simp only [hv] at hq); (try (exfalso; first | omega | (simp [BF.b] at hq; done))))))
      all_goals (try simp only [Cel.eta, Rul.eta, Grd.eta, if_true, if_false, Int.toNat_natCast, Int.toNat_zero, Nat.add_zero, Nat.zero_add])
      all_goals (try (first | (refine ret_slN (wrap := fun s => .tup [.agg [.int .i64 0, .int .i64 0, s], .int .i64 1]) (c := .cx []) hK 1 rfl rfl rfl rfl ?_) | (refine ret_slG (wrap := fun s => .tup [.agg [.int .i64 g.w, .int .i64 g.h, s], .int .i64 0]) (c := .cx (flow g.w g.h (1) g.cs)) hK 9 ⟨_, _, _, _, rfl, rfl, ?_, ?_, ?_, ?_⟩)))
      all_goals (first | (with_reducible rfl) | (with_reducible exact trivial) | (with_reducible exact splitN_zero) | ((with_reducible refine fsub_goal ?_); exact trivial) | (with_reducible assumption) | ((with_reducible refine ble_goal ?_); rfl) | ((with_reducible refine ble2_goal ?_); (first | rfl | kernel_rfl)) | ((with_reducible refine beq_goal ?_); rfl) | omega | skip)
      all_goals (first | assumption | (with_reducible rfl) | omega | (simp only [Cts.len, List.length_nil]; done) | (simp only [Cts.len, List.length_nil, Int.toNat_natCast, Nat.add_zero, Nat.zero_add]; omega) | exact isSome_of (by assumption) | (simp only [Cts.len, Int.toNat_natCast, Nat.add_zero, Nat.zero_add] at *; first | assumption | omega) | exact int_eq (by omega) | exact cst_eq (by omega) | exact lit_eq (by omega) | exact posg (by omega) | exact opt_getD (posg (by omega)) _ | rfl | exact .inl trivial | exact .inr trivial | exact (‹0 < List.length _ → Option.isSome _ = true›) (by omega) | exact mine_of rfl | (simp only [hv]; done) | (simp only [Cts.len, flow_length] at *; omega) | (rename_i h1 h2; exact h1 (by simpa [Cts.len] using hq)) | (intro h3; rename_i h1 h2; exact h1 (by simpa [Cts.len] using h3)) | (refine ⟨?_, ?_⟩ <;> (try simp only [Cts.len, flow_length] at *) <;> omega))
    · exact hK.elim
noncomputable def E26 : List (Nat × ECtr) := (23, c_grid_Stream) :: E25
theorem okE26 : EsOk Try.prog E26 := EsOk.cons k_grid_Stream okE25
end Go.Proofs.Ytbcajalaopjmdaa

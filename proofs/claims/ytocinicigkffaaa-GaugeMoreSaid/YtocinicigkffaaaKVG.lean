/- Contracts: what the functions hand back. -/
import Derived.Test.YtocinicigkffaaaKVF
set_option linter.unusedSimpArgs false
set_option linter.unusedVariables false
set_option maxRecDepth 100000
namespace Go.Proofs.Ytocinicigkffaaa
open Go.Sy Go.RowKit

noncomputable def X_gauge_both : Env Try.prog := ⟨Try.f22.ntmps, TT, G19, E9, Try.f22.results.toList, [], TT_ok, okG19, okE9, mixed⟩
noncomputable def code_gauge_both : Code := match Try.f22.body with | some c => c | none => .skip
theorem k_gauge_both : EOk Try.prog 22 (inl X_gauge_both code_gauge_both) := inl_ok X_gauge_both Try.func22 rfl (by kernel_rfl) rfl rfl
noncomputable def E10 : List (Nat × ECtr) := (22, inl X_gauge_both code_gauge_both) :: E9
theorem okE10 : EsOk Try.prog E10 := EsOk.cons k_gauge_both okE9
noncomputable def X_gauge_Bounds : Env Try.prog := ⟨Try.f10.ntmps, TT, G19, E10, Try.f10.results.toList, [], TT_ok, okG19, okE10, mixed⟩
noncomputable def code_gauge_Bounds : Code := match Try.f10.body with | some c => c | none => .skip
theorem k_gauge_Bounds : EOk Try.prog 10 (inl X_gauge_Bounds code_gauge_Bounds) := inl_ok X_gauge_Bounds Try.func10 rfl (by kernel_rfl) rfl rfl
noncomputable def E11 : List (Nat × ECtr) := (10, inl X_gauge_Bounds code_gauge_Bounds) :: E10
theorem okE11 : EsOk Try.prog E11 := EsOk.cons k_gauge_Bounds okE10
noncomputable def X_gauge_Proof : Env Try.prog := ⟨Try.f11.ntmps, TT, G19, E11, Try.f11.results.toList, [], TT_ok, okG19, okE11, mixed⟩
noncomputable def code_gauge_Proof : Code := match Try.f11.body with | some c => c | none => .skip
theorem k_gauge_Proof : EOk Try.prog 11 (inl X_gauge_Proof code_gauge_Proof) := inl_ok X_gauge_Proof Try.func11 rfl (by kernel_rfl) rfl rfl
noncomputable def E12 : List (Nat × ECtr) := (11, inl X_gauge_Proof code_gauge_Proof) :: E11
theorem okE12 : EsOk Try.prog E12 := EsOk.cons k_gauge_Proof okE11
def c_lawG_awake : Ctr := fun args _ K => match args with
  | [] => K (.bool .tt)
  | _ => False
noncomputable def X_lawG_awake : Env Try.prog := ⟨Try.f4.ntmps, TT, G19, E12, Try.f4.results.toList, [], TT_ok, okG19, okE12, mixed⟩
set_option maxHeartbeats 16000000 in
theorem k_lawG_awake : COk Try.prog 4 c_lawG_awake :=
  ctr_of_wk X_lawG_awake Try.func4 rfl (by kernel_rfl) rfl rfl fun args hp K hK => by
    unfold c_lawG_awake at hK
    split at hK
    · have hV : gausB [⟨0, 2, 5, 6, 2, 2, 1, 1, 3, 3⟩, ⟨0, 2, 5, 9, 0, 0, 0, 0, 0, 0⟩] = true := by decide
      have hS : strE [⟨0, 2, 5, 6, 2, 2, 1, 1, 3, 3⟩, ⟨0, 2, 5, 9, 0, 0, 0, 0, 0, 0⟩] 0 2 = 0 := by decide
      have hE : gauE ⟨0, 2, 5, 6, 2, 2, 1, 1, 3, 3⟩ = 0 := by decide
      have hL : gauLo ⟨0, 2, 5, 6, 2, 2, 1, 1, 3, 3⟩ = 3 := by decide
      have hH : gauHi ⟨0, 2, 5, 6, 2, 2, 1, 1, 3, 3⟩ = 4 := by decide
      have hE1 : exE [⟨0, 2, 5, 6, 2, 2, 1, 1, 3, 3⟩, ⟨0, 2, 5, 9, 0, 0, 0, 0, 0, 0⟩] 0 2 false = 0 := by decide
      have hE2 : exE [⟨0, 2, 5, 6, 2, 2, 1, 1, 3, 3⟩, ⟨0, 2, 5, 9, 0, 0, 0, 0, 0, 0⟩] 0 2 true = 0 := by decide
      have hN1 : exN [⟨0, 2, 5, 6, 2, 2, 1, 1, 3, 3⟩, ⟨0, 2, 5, 9, 0, 0, 0, 0, 0, 0⟩] 0 2 false = 5 := by decide
      have hN2 : exN [⟨0, 2, 5, 6, 2, 2, 1, 1, 3, 3⟩, ⟨0, 2, 5, 9, 0, 0, 0, 0, 0, 0⟩] 0 2 true = 4 := by decide
      have hL1 : exL [⟨0, 2, 5, 6, 2, 2, 1, 1, 3, 3⟩, ⟨0, 2, 5, 9, 0, 0, 0, 0, 0, 0⟩] 0 2 false = [1] := by decide
      have hL2 : exL [⟨0, 2, 5, 6, 2, 2, 1, 1, 3, 3⟩, ⟨0, 2, 5, 9, 0, 0, 0, 0, 0, 0⟩] 0 2 true = [0] := by decide
      refine ⟨[], [], _, rfl, trivial, fun _ _ b hb => (by cases hb), hK, Nat.le_of_ble_eq_true rfl, ?_⟩
      clear hK
      repeat' (first | ((with_reducible refine wk_ops ?_); (first | ((with_reducible refine wk_yld ?_); refine Wk.yield rfl rfl rfl (by assumption) rfl rfl rfl ?_; intro K' hK') | (refine Wk.op ?_; intro K' hK') | (refine Wk.step rfl ?_))) | ((with_reducible refine wk_rs ?_); (first | (refine Wk.rsTake ?_; intro K' hK') | (refine Wk.rsOne ?_ (fun K' hR' => ?_)) | (refine Wk.rsTwo ?_ ?_ (fun K' hR' => ?_) (fun K' hR' => ?_)) | (refine Wk.rsDone ?_))) | ((with_reducible refine wk_rg ?_); (first | (refine Wk.rgOne ?_; intro K' hK') | (refine Wk.rgPure ?_; intro K' hP') | (refine Wk.rgX ?_; intro K' hP') | (refine Wk.rgDone ?_) | (refine Wk.rgTwo ?_ ?_ <;> intro K' hK') | (refine Wk.rgH ?_ ?_))) | ((with_reducible refine wk_xq ?_); (first | (refine Wk.xqOp ?_; intro K' hP') | (refine Wk.xqNew ?_; intro K' hK') | (refine Wk.xqEnd ?_))) | ((with_reducible refine wk_c ?_); (first | (refine Wk.exitOut rfl ?_) | (refine Wk.range rfl rfl rfl ?_; intro Tr fnr Dr lr hTr K' hK') | (refine Wk.rangeL rfl rfl rfl ?_; intro Tr fnr Dr lr hTr K' hK') | (refine Wk.rangeIn rfl rfl rfl ?_; intro Tr fnr lr hTr K' hK') | (refine Wk.cond ?_; intro KT KF hKT hKF) | (refine Wk.ret ?_) | (refine Wk.draw ?_ ?_ ?_; rotate_left 2; (intro K' hP')) | (refine Wk.step rfl ?_))) | ((fail_if_success (with_reducible apply g_ile)); (fail_if_success (with_reducible apply g_ilt)); (fail_if_success (with_reducible apply g_nle)); (fail_if_success (with_reducible apply g_nlt)); (fail_if_success (with_reducible apply g_ieq)); (fail_if_success (with_reducible apply g_neq)); (first | (with_reducible refine And.intro ?_ ?_) | (with_reducible refine I64_two ?_ ?_) | ((with_reducible intro hq); (try simp only [BF.H, Cel.eta, Rul.eta, Grd.eta, if_true, if_false, Int.toNat_natCast, Nat.add_zero] at hq); (try simp only [bfEq, BF.H, hV, hS, hE, hL, hH, hE1, hE2, hN1, hN2, hL1, hL2] at hq); (try (exfalso; (try clear hKT hKF); (try clear hK'); (try clear hP'); (try clear hR'); first | omega | (simp [BF.b] at hq; done)))) | (refine hK' _ _ ?_; clear hK' K') | (refine hR' _ _ ?_ ?_ <;> clear hR' K') | (refine hP' _ ?_; clear hP' K') | (refine hKT _ ?_; clear hKT hKF KT KF) | (refine hKF _ ?_; clear hKT hKF KT KF) | (refine Wk.yield rfl rfl rfl (by assumption) rfl rfl rfl ?_; intro K' hK') | (refine Wk.br rfl rfl rfl rfl ?_) | (refine Fin.roundN rfl rfl ?_) | (refine Fin.roundR rfl rfl ?_) | (refine Wk.exitOut rfl ?_) | (refine Fin.roundE rfl rfl ?_) | (refine Wk.range rfl rfl rfl ?_; intro Tr fnr Dr lr hTr K' hK') | (refine Wk.rangeL rfl rfl rfl ?_; intro Tr fnr Dr lr hTr K' hK') | (refine Wk.rangeIn rfl rfl rfl ?_; intro Tr fnr lr hTr K' hK') | (refine RangeEnd.none rfl rfl rfl rfl ?_) | (refine RangeEnd.some rfl rfl rfl rfl ?_) | (refine Wk.k (t := []) ?_) | (refine Wk.op ?_; intro K' hK') | (refine Wk.xqOp ?_; intro K' hP') | (refine Wk.rgOne ?_; intro K' hK') | (refine Wk.rgPure ?_; intro K' hP') | (refine Wk.rgX ?_; intro K' hP') | (refine Wk.xqNew ?_; intro K' hK') | (refine Wk.xqEnd ?_) | (refine Wk.rgDone ?_) | (refine Wk.rgTwo ?_ ?_ <;> intro K' hK') | (refine Wk.rgH ?_ ?_) | (refine Wk.rsTake ?_; intro K' hK') | (refine Wk.rsOne ?_ (fun K' hR' => ?_)) | (refine Wk.rsTwo ?_ ?_ (fun K' hR' => ?_) (fun K' hR' => ?_)) | (refine Wk.rsThree ?_ ?_ ?_ (fun K' hR' => ?_) (fun K' hR' => ?_) (fun K' hR' => ?_)) | (refine Wk.rsDone ?_) | (refine Wk.cond ?_; intro KT KF hKT hKF) | (refine Wk.ret ?_) | (refine Wk.draw ?_ ?_ ?_; rotate_left 2; (intro K' hP')) | (refine Wk.step rfl ?_) | (refine Wk.done ?_) | (refine Fin.plain trivial ?_) | (refine Fin.marks trivial rfl rfl rfl ?_) | (refine Fin.marksL trivial rfl rfl rfl ?_) | ((with_reducible refine top_goal ?_); kernel_rfl) | ((with_reducible refine takes_goal ?_); kernel_rfl) | ((with_reducible refine drop_goal ?_); kernel_rfl) | ((with_reducible refine held_goal ?_); (repeat refine And.intro rfl ?_); exact trivial) | ((with_reducible refine allB_goal ?_); kernel_rfl) | ((with_reducible refine mine_goal ?_); exact mine_of rfl) | ((with_reducible refine withV_goal ?_); refine withV_mk rfl ?_) | ((with_reducible refine hsel_goal ?_); (first | (exact hsel.nil) | (refine hsel.take (HB.like.refl _) (.inr fun _ h => h) ?_) | (refine hsel.take (like_cts ?_) (.inl rfl) ?_) | (refine hsel.take (like_cts ?_) (.inr fun _ h => h) ?_) | (refine hsel.skip (spare_own rfl rfl) ?_) | (refine hsel.skip spare_ro ?_))) | ((with_reducible refine withMC_goal ?_); refine withMC_mk rfl ?_) | (refine And.intro ?_ ?_) | (intro hq; (try simp only [BF.H, Cel.eta, Rul.eta, Grd.eta, if_true, if_false, Int.toNat_natCast, Nat.add_zero] at hq); (try simp only [bfEq, BF.H, hV, hS, hE, hL, hH, hE1, hE2, hN1, hN2, hL1, hL2] at hq); (try (exfalso; (try clear hKT hKF); (try clear hK'); (try clear hP'); (try clear hR'); first | omega | (simp [BF.b] at hq; done)))))))
      all_goals (try simp only [Cel.eta, Rul.eta, Grd.eta, Pnt.eta, if_true, if_false, Int.toNat_natCast, Int.toNat_zero, Nat.add_zero, Nat.zero_add])
      all_goals (first | (with_reducible rfl) | (with_reducible exact trivial) | (with_reducible exact splitN_zero) | ((with_reducible refine fsub_goal ?_); exact trivial) | (with_reducible assumption) | ((with_reducible refine ble_goal ?_); rfl) | (with_reducible exact Nat.beq_refl _) | ((with_reducible refine band_goal ?_ ?_); (first | exact Nat.beq_refl _ | rfl | kernel_rfl)) | ((with_reducible refine ble2_goal ?_); (first | rfl | kernel_rfl)) | ((with_reducible refine beq_goal ?_); rfl) | omega | skip)
      all_goals (first | assumption | (with_reducible rfl) | omega | (simp only [Cts.len, List.length_nil]; done) | (simp only [Cts.len, List.length_nil, Int.toNat_natCast, Nat.add_zero, Nat.zero_add]; omega) | exact isSome_of (by assumption) | (simp only [Cts.len, Int.toNat_natCast, Nat.add_zero, Nat.zero_add] at *; first | assumption | omega) | exact int_eq (by omega) | exact cst_eq (by omega) | exact lit_eq (by omega) | rfl | decide | exact mine_of rfl | (apply_assumption; decide) | fail)
    · exact hK.elim
def G20 : List (Nat × Ctr) := (4, c_lawG_awake) :: G19
theorem okG20 : GsOk Try.prog G20 := GsOk.cons k_lawG_awake okG19
end Go.Proofs.Ytocinicigkffaaa

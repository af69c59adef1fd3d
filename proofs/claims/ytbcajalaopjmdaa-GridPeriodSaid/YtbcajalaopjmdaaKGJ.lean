/- Contracts: what the functions hand back. -/
import Derived.Test.YtbcajalaopjmdaaKGI
set_option linter.unusedSimpArgs false
set_option linter.unusedVariables false
set_option maxRecDepth 100000
namespace Go.Proofs.Ytbcajalaopjmdaa
open Go.Sy Go.RowKit

noncomputable def X_grid_steps_1 : Env Try.prog := ⟨Try.f135.ntmps, TT, G56, E36, Try.f135.results.toList, [], TT_ok, okG56, okE36, mixed⟩
noncomputable def code_grid_steps_1 : Code := match Try.f135.body with | some c => c | none => .skip
theorem k_grid_steps_1 : EOk Try.prog 135 (inl X_grid_steps_1 code_grid_steps_1) := inl_ok X_grid_steps_1 Try.func135 rfl (by kernel_rfl) rfl rfl
noncomputable def E37 : List (Nat × ECtr) := (135, inl X_grid_steps_1 code_grid_steps_1) :: E36
theorem okE37 : EsOk Try.prog E37 := EsOk.cons k_grid_steps_1 okE36
noncomputable def X_grid_steps : Env Try.prog := ⟨Try.f104.ntmps, TT, G56, E37, Try.f104.results.toList, [], TT_ok, okG56, okE37, mixed⟩
noncomputable def code_grid_steps : Code := match Try.f104.body with | some c => c | none => .skip
theorem k_grid_steps : EOk Try.prog 104 (inl X_grid_steps code_grid_steps) := inl_ok X_grid_steps Try.func104 rfl (by kernel_rfl) rfl rfl
noncomputable def E38 : List (Nat × ECtr) := (104, inl X_grid_steps code_grid_steps) :: E37
theorem okE38 : EsOk Try.prog E38 := EsOk.cons k_grid_steps okE37
noncomputable def X_slices_AppendSeq_int_int : Env Try.prog := ⟨Try.f156.ntmps, TT, G56, E38, Try.f156.results.toList, [], TT_ok, okG56, okE38, mixed⟩
noncomputable def code_slices_AppendSeq_int_int : Code := match Try.f156.body with | some c => c | none => .skip
theorem k_slices_AppendSeq_int_int : EOk Try.prog 156 (inlM X_slices_AppendSeq_int_int code_slices_AppendSeq_int_int) := inlM_ok X_slices_AppendSeq_int_int Try.func156 rfl (by kernel_rfl) rfl rfl
noncomputable def E39 : List (Nat × ECtr) := (156, inlM X_slices_AppendSeq_int_int code_slices_AppendSeq_int_int) :: E38
theorem okE39 : EsOk Try.prog E39 := EsOk.cons k_slices_AppendSeq_int_int okE38
noncomputable def X_slices_Collect_int : Env Try.prog := ⟨Try.f138.ntmps, TT, G56, E39, Try.f138.results.toList, [], TT_ok, okG56, okE39, mixed⟩
noncomputable def code_slices_Collect_int : Code := match Try.f138.body with | some c => c | none => .skip
theorem k_slices_Collect_int : EOk Try.prog 138 (inl X_slices_Collect_int code_slices_Collect_int) := inl_ok X_slices_Collect_int Try.func138 rfl (by kernel_rfl) rfl rfl
noncomputable def E40 : List (Nat × ECtr) := (138, inl X_slices_Collect_int code_slices_Collect_int) :: E39
theorem okE40 : EsOk Try.prog E40 := EsOk.cons k_slices_Collect_int okE39
noncomputable def X_slices_Reverse_int_int : Env Try.prog := ⟨Try.f139.ntmps, TT, G56, E40, Try.f139.results.toList, [(3, .x [0, 1, 2, 3, 4, 5, 6, 7, 8, 9, 10, 11, 12] [] (.one 13 (.one 14 (.one 15 (.done)))))], TT_ok, okG56, okE40, mixed⟩
noncomputable def code_slices_Reverse_int_int : Code := match Try.f139.body with | some c => c | none => .skip
theorem k_slices_Reverse_int_int : EOk Try.prog 139 (inl X_slices_Reverse_int_int code_slices_Reverse_int_int) := inl_ok X_slices_Reverse_int_int Try.func139 rfl (by kernel_rfl) rfl rfl
noncomputable def E41 : List (Nat × ECtr) := (139, inl X_slices_Reverse_int_int code_slices_Reverse_int_int) :: E40
theorem okE41 : EsOk Try.prog E41 := EsOk.cons k_slices_Reverse_int_int okE40
noncomputable def X_slices_Values_int_int_1 : Env Try.prog := ⟨Try.f157.ntmps, TT, G56, E41, Try.f157.results.toList, [], TT_ok, okG56, okE41, mixed⟩
noncomputable def code_slices_Values_int_int_1 : Code := match Try.f157.body with | some c => c | none => .skip
theorem k_slices_Values_int_int_1 : EOk Try.prog 157 (inl X_slices_Values_int_int_1 code_slices_Values_int_int_1) := inl_ok X_slices_Values_int_int_1 Try.func157 rfl (by kernel_rfl) rfl rfl
noncomputable def E42 : List (Nat × ECtr) := (157, inl X_slices_Values_int_int_1 code_slices_Values_int_int_1) :: E41
theorem okE42 : EsOk Try.prog E42 := EsOk.cons k_slices_Values_int_int_1 okE41
noncomputable def X_slices_Values_int_int : Env Try.prog := ⟨Try.f140.ntmps, TT, G56, E42, Try.f140.results.toList, [], TT_ok, okG56, okE42, mixed⟩
noncomputable def code_slices_Values_int_int : Code := match Try.f140.body with | some c => c | none => .skip
theorem k_slices_Values_int_int : EOk Try.prog 140 (inl X_slices_Values_int_int code_slices_Values_int_int) := inl_ok X_slices_Values_int_int Try.func140 rfl (by kernel_rfl) rfl rfl
noncomputable def E43 : List (Nat × ECtr) := (140, inl X_slices_Values_int_int code_slices_Values_int_int) :: E42
theorem okE43 : EsOk Try.prog E43 := EsOk.cons k_slices_Values_int_int okE42
noncomputable def X_grid_downward : Env Try.prog := ⟨Try.f107.ntmps, TT, G56, E43, Try.f107.results.toList, [], TT_ok, okG56, okE43, mixed⟩
noncomputable def code_grid_downward : Code := match Try.f107.body with | some c => c | none => .skip
theorem k_grid_downward : EOk Try.prog 107 (inl X_grid_downward code_grid_downward) := inl_ok X_grid_downward Try.func107 rfl (by kernel_rfl) rfl rfl
noncomputable def E44 : List (Nat × ECtr) := (107, inl X_grid_downward code_grid_downward) :: E43
theorem okE44 : EsOk Try.prog E44 := EsOk.cons k_grid_downward okE43
noncomputable def X_grid_run : Env Try.prog := ⟨Try.f103.ntmps, TT, G56, E44, Try.f103.results.toList, [], TT_ok, okG56, okE44, mixed⟩
noncomputable def code_grid_run : Code := match Try.f103.body with | some c => c | none => .skip
theorem k_grid_run : EOk Try.prog 103 (inlM X_grid_run code_grid_run) := inlM_ok X_grid_run Try.func103 rfl (by kernel_rfl) rfl rfl
noncomputable def E45 : List (Nat × ECtr) := (103, inlM X_grid_run code_grid_run) :: E44
theorem okE45 : EsOk Try.prog E45 := EsOk.cons k_grid_run okE44
def c_grid_Run : ECtr := fun args hp K => match args with
  | [x0, x1, x2, x3] => g1 x0 hp fun g => lr x1 hp fun l => i1 x2 fun t => i1 x3 fun z => (g.cs.length ≤ 1200 ∧ l.length ≤ 40 ∧ I64 t ∧ I64 z) ∧ lenK hp 0 fun n => ∀ (ad : Option Nm) (cap bc : Nat), (0 < ((runG g l t z).cs).length → ad.isSome = true) → (((runG g l t z).cs).length ≤ cap ∧ cap ≤ 9223372036854775807) → appK hp ⟨ad, true, .wr 61 bc, .cx ((runG g l t z).cs)⟩ fun hp' => K (.tup [.agg [.int .i64 (runG g l t z).w, .int .i64 (runG g l t z).h, .sl n ad 0 4 ((runG g l t z).cs).length cap], .int .i64 (runE g l t z)]) hp'
  | _ => False
noncomputable def X_grid_Run : Env Try.prog := ⟨Try.f42.ntmps, TT, G56, E45, Try.f42.results.toList, [(4, .h [0, 1, 2, 3, 7] (.pure 0 (.pure 1 (.pure 2 (.pure 3 (.s1 4 [] (.s1 5 [0] (.s1 6 [] (.pure 7 (.done))))))))))], TT_ok, okG56, okE45, mixed⟩
set_option maxHeartbeats 8000000 in
theorem k_grid_Run : EOk Try.prog 42 c_grid_Run :=
  eok_of_wk X_grid_Run Try.func42 rfl (by kernel_rfl) rfl rfl fun args hp K hK => by
    unfold c_grid_Run at hK
    split at hK
    · obtain ⟨g, ag, capg, hK1, e0, posg, vwg⟩ := iff_g1 hK; clear hK; have hK := hK1; clear hK1
      obtain ⟨l, al, capl, hK1, sl⟩ := iff_lr hK; clear hK; have hK := hK1; clear hK1
      have posl : 0 < l.length → al.isSome = true := sl.pos
      obtain ⟨t, hK1, e2⟩ := iff_i1 hK; clear hK; have hK := hK1; clear hK1
      obtain ⟨z, hK1, e3⟩ := iff_i1 hK; clear hK; have hK := hK1; clear hK1
      obtain ⟨hpre, hK⟩ := hK
      obtain ⟨hp1, hp2, hp3, hp4⟩ := hpre
      simp only [lenK_eq, appK_eq] at hK
      refine ⟨[.agg [.int .i64 g.w, .int .i64 g.h, .sl 0 ag 0 4 g.cs.length capg], .sl 1 al 0 2 l.length capl, .int .i64 t, .int .i64 z], [⟨ag, false, .ro, .cx g.cs⟩, ⟨al, false, .ro, .rx l⟩], denL_cons (e0) (denL_cons (sl.eq) (denL_cons (e2.symm) (denL_cons (e3.symm) (rfl)))), ⟨trivial, ⟨trivial, trivial⟩⟩, fun w hw b hb => (by simp only [List.mem_cons, List.not_mem_nil, or_false] at hb; rcases hb with rfl | rfl <;> first | exact vwg w hw | exact sl.ok w hw), Nat.le_of_ble_eq_true rfl, ?_⟩
      refine Wk.nil 61 (.cx []) rfl ?_
      rcases run_ways g l t z with ⟨hv, hr, hn, hE, hG, hU⟩ | ⟨hv, hr, hn, hE, hG, hU⟩ | ⟨hv, hr, hn, hE, hG, hU⟩ | ⟨hv, hr, hn, hE, hG, hU, hl, hbb, hro, hru, hub⟩ <;> rw [hG] at hK <;> (try (rw [show runE g l t z = 0 from hE] at hK))
      all_goals (repeat' (first | (refine Wk.yield rfl rfl rfl (by assumption) rfl rfl rfl ?_; intro K' hK') | (refine Wk.br rfl rfl rfl rfl ?_) | (refine Fin.roundN rfl rfl ?_) | (refine Fin.roundR rfl rfl ?_) | (refine Wk.exitOut rfl ?_) | (refine Fin.roundE rfl rfl ?_) | (refine Wk.range rfl rfl rfl ?_; intro Tr fnr Dr lr hTr K' hK') | (refine Wk.rangeIn rfl rfl rfl ?_; intro Tr fnr lr hTr K' hK') | (refine RangeEnd.none rfl rfl rfl rfl ?_) | (refine RangeEnd.some rfl rfl rfl rfl ?_) | (refine Wk.k (t := []) ?_) | (refine Wk.op ?_; intro K' hK') | (refine Wk.xqOp ?_; intro K' hK') | (refine Wk.rgOne ?_; intro K' hK') | (refine Wk.rgPure ?_; intro K' hK') | (refine Wk.rgX ?_; intro K' hK') | (refine Wk.xqNew ?_; intro K' hK') | (refine Wk.xqEnd ?_) | (refine Wk.rgDone ?_) | (refine Wk.rgTwo ?_ ?_ <;> intro K' hK') | (refine Wk.rgH ?_ ?_) | (refine Wk.rsTake ?_; intro K' hK') | (refine Wk.rsOne ?_ (fun K' hK' => ?_)) | (refine Wk.rsTwo ?_ ?_ (fun K' hK' => ?_) (fun K' hK' => ?_)) | (refine Wk.rsDone ?_) | (refine hK' _ _ ?_ ?_ <;> clear hK' K') | (refine hK' _ _ ?_; clear hK' K') | (refine hK' _ ?_; clear hK' K') | (refine hKT _ ?_; clear hKT hKF KT KF) | (refine hKF _ ?_; clear hKT hKF KT KF) | (refine Wk.cond ?_; intro KT KF hKT hKF) | (refine Wk.ret ?_) | (refine Wk.draw ?_ ?_ ?_; rotate_left 2; (intro K' hK')) | (refine Wk.step rfl ?_) | (refine Wk.inv (X := X_grid_steps_1) (t := .b 0 :: _) (ι := Nat × Option Nm × Nat × Nat) (fun ⟨k, ν, cap, bc⟩ => k ≤ z.toNat ∧ ν.isSome = true ∧ g.cs.length ≤ cap ∧ cap ≤ 9223372036854775807) [0, 2, 5] (fun ⟨k, ν, cap, bc⟩ => [(6, .int .i64 (k : Int))]) (fun ⟨k, ν, cap, bc⟩ => [(10, fun b => ⟨ν, true, .wr 61 bc, .cx (runC g.w g.h (rho l t) g.cs k)⟩), (11, fun b => ⟨b.nm, b.own, b.kd, .l [.int .i64 g.w, .int .i64 g.h, .sl 10 ν 0 4 g.cs.length cap, (b.cts.cell 3)]⟩)]) (fun ⟨k, ν, cap, bc⟩ => z.toNat - k) ?_; intro K' hK'; refine hK' _ ?_ (fun ⟨k, ν, cap, bc⟩ hi => (have hO : k ≤ z.toNat ∧ ν.isSome = true ∧ g.cs.length ≤ cap ∧ cap ≤ 9223372036854775807 := hi; ?_)) <;> clear hK' K'; refine exAt (0) ?_; apply ex3; refine ⟨?_, ?_, ?_⟩) | (refine Wk.kp (X := X_grid_steps_1) (t := .b 0 :: _) [(17, 10)] ?_; intro K' hK'; refine hK' _ (exAt (k + 1) ?_); apply ex3; refine ⟨?_, ?_, ?_, ?_⟩) | (refine Wk.inv (X := X_grid_field_collided) (t := .b 0 :: _) (ι := Nat) (fun j => j ≤ g.cs.length) [1, 3, 5, 6, 11, 12] (fun j => [(13, .int .i64 (j : Int))]) (fun j => [(10, fun b => ⟨b.nm, b.own, b.kd, .cx (prog (fun i => (((runC g.w g.h (rho l t) g.cs k).getD i default).collide (rho l t k)).1) j (runC g.w g.h (rho l t) g.cs k))⟩)]) (fun j => g.cs.length - j) ?_; intro K' hK'; ((refine hK' _ ⟨0, ?_, ?_, ?_⟩ ?_) <;> clear hK' K'); rotate_left 3; (intro j hi; have hI : j ≤ g.cs.length := hi; clear hi)) | (refine Wk.k (X := X_grid_field_collided) (t := .b 0 :: _) ⟨j + 1, ?_, ?_, ?_, ?_⟩) | (refine Wk.done ?_) | (refine Fin.plain trivial ?_) | (refine Fin.marks trivial rfl rfl rfl ?_) | ((with_reducible refine top_goal ?_); kernel_rfl) | ((with_reducible refine takes_goal ?_); kernel_rfl) | ((with_reducible refine drop_goal ?_); kernel_rfl) | ((with_reducible refine held_goal ?_); (repeat refine And.intro rfl ?_); exact trivial) | ((with_reducible refine allB_goal ?_); kernel_rfl) | ((with_reducible refine mine_goal ?_); exact mine_of rfl) | ((with_reducible refine withV_goal ?_); refine withV_mk rfl ?_) | ((with_reducible refine hsel_goal ?_); (first | (exact hsel.nil) | (refine hsel.take (HB.like.refl _) (.inr fun _ h => h) ?_) | (refine hsel.take (like_l ?_) (.inl rfl) ?_) | (refine hsel.take (like_cts ?_) (.inl rfl) ?_) | (refine hsel.skip (spare_own rfl rfl) ?_) | (refine hsel.skip spare_ro ?_))) | (refine denL_cons ?_ ?_) | (refine sl_like ?_) | (refine And.intro ?_ ?_) | (intro hq; (try simp only [BF.H, Cel.eta, Rul.eta, Grd.eta, if_true, if_false, Int.toNat_natCast, Nat.add_zero] at hq); (try simp only [hE] at hq); (try (exfalso; first | omega | (simp [BF.b] at hq; done))))))
      all_goals (try simp only [Cel.eta, Rul.eta, Grd.eta, if_true, if_false, Int.toNat_natCast, Int.toNat_zero, Nat.add_zero, Nat.zero_add])
      all_goals (try (first | (refine ret_slN (wrap := fun s => .tup [.agg [.int .i64 0, .int .i64 0, s], .int .i64 (runE g l t z)]) (c := .cx []) hK 2 rfl rfl rfl rfl ?_) | (refine ret_slG (wrap := fun s => .tup [.agg [.int .i64 g.w, .int .i64 g.h, s], .int .i64 0]) (c := .cx (runC g.w g.h (rho l t) g.cs z.toNat)) hK 10 ⟨_, _, _, _, rfl, den_tag (runC_length ..) rfl, ?_, ?_, ?_, ?_⟩)))
      all_goals (first | (with_reducible rfl) | (with_reducible exact trivial) | (with_reducible exact splitN_zero) | ((with_reducible refine fsub_goal ?_); exact trivial) | (with_reducible assumption) | ((with_reducible refine ble_goal ?_); rfl) | ((with_reducible refine ble2_goal ?_); (first | rfl | kernel_rfl)) | ((with_reducible refine beq_goal ?_); rfl) | omega | skip)
      all_goals (first | assumption | (with_reducible rfl) | omega | (simp only [Cts.len, List.length_nil]; done) | (simp only [Cts.len, List.length_nil, Int.toNat_natCast, Nat.add_zero, Nat.zero_add]; omega) | exact isSome_of (by assumption) | (simp only [Cts.len, Int.toNat_natCast, Nat.add_zero, Nat.zero_add] at *; first | assumption | omega) | exact int_eq (by omega) | exact cst_eq (by omega) | exact lit_eq (by omega) | exact posg (by omega) | exact opt_getD (posg (by omega)) _ | exact posl (by omega) | exact opt_getD (posl (by omega)) _ | exact hp3.1 | exact hp3.2 | exact hp4.1 | exact hp4.2 | rfl | exact mine_of rfl | exact .inl trivial | exact hO.2.1 | exact opt_getD hO.2.1 _ | exact (hro k).1 | exact (hru k).1 | exact (hub k).1 | exact (hub _).1 | (simp only [hE]; rfl) | (simp only [hE]; omega) | (simp only [hE] at *; omega) | (simp only [Cts.len, aft_length, flow_length, (hru k).2.2] at *; first | omega | done) | (simp only [Cts.len, aft_length, flow_length, (hub k).2.2] at *; first | omega | done) | (rw [runC_length]; omega) | (rw [bakC_length]; omega) | exact (‹0 < List.length _ → Option.isSome _ = true›) (by omega) | exact (‹0 < List.length _ → Option.isSome _ = true›) (by simp only [aft_length, flow_length, (hru k).2.2]; omega) | exact (‹0 < List.length _ → Option.isSome _ = true›) (by simp only [aft_length, flow_length, (hub k).2.2]; omega) | exact (hro k).2.1 | exact (hro k).2.2 | (show _ < l.length; have hz := (hro k).2; omega) | (simp only [Cts.len, prog_length, flow_length, (hru k).2.2] at *; first | omega | done) | exact cx_eq (prog_upd (fun c => (c.collide (rho l t k)).1) (by rw [(hru k).2.2]; omega)) | (rw [aftc_prog (hro k).1 (hru k).2.1 (by rw [(hru k).2.2]; omega)]; exact gok_aft (hro k).1 (hru k).1) | exact cx_eq (by rw [aftc_prog (hro k).1 (hru k).2.1 (by rw [(hru k).2.2]; omega)]; rfl) | exact cx_eq (prog_zero ..) | exact cx_eq (prog_zero ..).symm | exact (‹0 < List.length _ → Option.isSome _ = true›) (by simp only [flow_length, prog_length, (hru k).2.2]; omega) | (intro _; exact hO.2.1) | exact cx_eq (by rw [show z.toNat = k by omega]) | (refine ⟨?_, ?_⟩ <;> (try simp only [Cts.len, runC_length, bakC_length, aft_length, flow_length] at *) <;> omega) | (simp only [Cts.len, runC_length, bakC_length, aft_length, flow_length]; omega))
    · exact hK.elim
noncomputable def E46 : List (Nat × ECtr) := (42, c_grid_Run) :: E45
theorem okE46 : EsOk Try.prog E46 := EsOk.cons k_grid_Run okE45
end Go.Proofs.Ytbcajalaopjmdaa

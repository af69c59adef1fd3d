/- Contracts: what the functions hand back. -/
import Derived.Test.YtbcajalaopjmdaaKGI
set_option linter.unusedSimpArgs false
set_option linter.unusedVariables false
set_option maxRecDepth 100000
namespace Go.Proofs.Ytbcajalaopjmdaa
open Go.Sy Go.RowKit

def c_refB_Times : Ctr := fun args _ K => match args with
  | [x0, x1] => i1 x0 fun t => i1 x1 fun n => (I64 t ∧ I64 n) ∧ K (.bool (.atom (decide (timesP t n))))
  | _ => False
noncomputable def X_refB_Times : Env Try.prog := ⟨Try.f137.ntmps, TT, G57, E35, Try.f137.results.toList, [], TT_ok, okG57, okE35, mixed⟩
theorem k_refB_Times : COk Try.prog 137 c_refB_Times :=
  ctr_of_wk X_refB_Times Try.func137 rfl (by kernel_rfl) rfl rfl fun args hp K hK => by
    unfold c_refB_Times at hK
    split at hK
    · obtain ⟨t, hK1, e0⟩ := iff_i1 hK; clear hK; have hK := hK1; clear hK1
      obtain ⟨n, hK1, e1⟩ := iff_i1 hK; clear hK; have hK := hK1; clear hK1
      obtain ⟨hpre, hK⟩ := hK
      refine ⟨[.int .i64 t, .int .i64 n], [], _, denL_cons (e0.symm) (denL_cons (e1.symm) (rfl)), trivial, fun _ _ b hb => (by cases hb), hK, Nat.le_of_ble_eq_true rfl, ?_⟩
      clear hK
      repeat' (first | (refine Wk.op ?_; intro K' hK') | (refine Wk.xqOp ?_; intro K' hK') | (refine Wk.rgOne ?_; intro K' hK') | (refine Wk.rgPure ?_; intro K' hK') | (refine Wk.rgX ?_; intro K' hK') | (refine Wk.xqNew ?_; intro K' hK') | (refine Wk.xqEnd ?_) | (refine Wk.rgDone ?_) | (refine Wk.rgTwo ?_ ?_ <;> intro K' hK') | (refine Wk.rgH ?_ ?_) | (refine Wk.rsTake ?_; intro K' hK') | (refine Wk.rsOne ?_ (fun K' hK' => ?_)) | (refine Wk.rsTwo ?_ ?_ (fun K' hK' => ?_) (fun K' hK' => ?_)) | (refine Wk.rsDone ?_) | (refine hK' _ _ ?_ ?_ <;> clear hK' K') | (refine hK' _ _ ?_; clear hK' K') | (refine hK' _ ?_; clear hK' K') | (refine hKT _ ?_; clear hKT hKF KT KF) | (refine hKF _ ?_; clear hKT hKF KT KF) | (refine Wk.cond ?_; intro KT KF hKT hKF) | (refine Wk.ret ?_) | (refine Wk.draw ?_ ?_ ?_; rotate_left 2; (intro K' hK')) | (refine Wk.step rfl ?_) | (refine Wk.done ?_) | (refine Fin.plain trivial ?_) | ((with_reducible refine top_goal ?_); kernel_rfl) | ((with_reducible refine takes_goal ?_); kernel_rfl) | ((with_reducible refine drop_goal ?_); kernel_rfl) | ((with_reducible refine held_goal ?_); (repeat refine And.intro rfl ?_); exact trivial) | ((with_reducible refine allB_goal ?_); kernel_rfl) | ((with_reducible refine mine_goal ?_); exact mine_of rfl) | ((with_reducible refine withV_goal ?_); refine withV_mk rfl ?_) | ((with_reducible refine hsel_goal ?_); (first | (exact hsel.nil) | (refine hsel.take (HB.like.refl _) (.inr fun _ h => h) ?_) | (refine hsel.take (like_l ?_) (.inl rfl) ?_) | (refine hsel.take (like_cts ?_) (.inl rfl) ?_) | (refine hsel.skip (spare_own rfl rfl) ?_) | (refine hsel.skip spare_ro ?_))) | (refine denL_cons ?_ ?_) | (refine sl_like ?_) | (refine And.intro ?_ ?_) | (intro hq; (try simp only [BF.H, Cel.eta, Rul.eta, Grd.eta, if_true, if_false, Int.toNat_natCast, Nat.add_zero] at hq); (try (exfalso; first | omega | (simp [BF.b] at hq; done)))))
      all_goals (try simp only [Cel.eta, Rul.eta, Grd.eta, if_true, if_false, Int.toNat_natCast, Int.toNat_zero, Nat.add_zero, Nat.zero_add])
      all_goals (first | (with_reducible rfl) | (with_reducible exact trivial) | (with_reducible exact splitN_zero) | ((with_reducible refine fsub_goal ?_); exact trivial) | (with_reducible assumption) | ((with_reducible refine ble_goal ?_); rfl) | ((with_reducible refine ble2_goal ?_); (first | rfl | kernel_rfl)) | ((with_reducible refine beq_goal ?_); rfl) | omega | skip)
      all_goals (first | assumption | (with_reducible rfl) | omega | (simp only [Cts.len, List.length_nil]; done) | (simp only [Cts.len, List.length_nil, Int.toNat_natCast, Nat.add_zero, Nat.zero_add]; omega) | exact isSome_of (by assumption) | (simp only [Cts.len, Int.toNat_natCast, Nat.add_zero, Nat.zero_add] at *; first | assumption | omega) | exact int_eq (by omega) | exact cst_eq (by omega) | exact lit_eq (by omega) | rfl | exact res_ff (decide_eq_false (by unfold timesP; omega)) | exact res_tt (decide_eq_true (by unfold timesP; omega)) | (refine res_b ?_; rw [Bool.eq_iff_iff, decide_eq_true_eq]; simp only [BF.b, Bool.and_eq_true, Bool.or_eq_true, decide_eq_true_eq]; unfold timesP; omega))
    · exact hK.elim
def G58 : List (Nat × Ctr) := (137, c_refB_Times) :: G57
theorem okG58 : GsOk Try.prog G58 := GsOk.cons k_refB_Times okG57
def c_grid_asked : Ctr := fun args hp K => match args with
  | [x0, x1, x2, x3] => g1 x0 hp fun g => lr x1 hp fun l => i1 x2 fun t => i1 x3 fun n => (g.cs.length ≤ 1200 ∧ l.length ≤ 40 ∧ I64 t ∧ I64 n) ∧ K (.int .i64 (runE g l t n))
  | _ => False
noncomputable def X_grid_asked : Env Try.prog := ⟨Try.f102.ntmps, TT, G58, E35, Try.f102.results.toList, [], TT_ok, okG58, okE35, mixed⟩
set_option maxHeartbeats 4000000 in
theorem k_grid_asked : COk Try.prog 102 c_grid_asked :=
  ctr_of_wk X_grid_asked Try.func102 rfl (by kernel_rfl) rfl rfl fun args hp K hK => by
    unfold c_grid_asked at hK
    split at hK
    · obtain ⟨g, ag, capg, hK1, e0, posg, vwg⟩ := iff_g1 hK; clear hK; have hK := hK1; clear hK1
      obtain ⟨l, al, capl, hK1, sl⟩ := iff_lr hK; clear hK; have hK := hK1; clear hK1
      have posl : 0 < l.length → al.isSome = true := sl.pos
      obtain ⟨t, hK1, e2⟩ := iff_i1 hK; clear hK; have hK := hK1; clear hK1
      obtain ⟨n, hK1, e3⟩ := iff_i1 hK; clear hK; have hK := hK1; clear hK1
      obtain ⟨hpre, hK⟩ := hK
      obtain ⟨hp1, hp2, hp3, hp4⟩ := hpre
      refine ⟨[.agg [.int .i64 g.w, .int .i64 g.h, .sl 0 ag 0 4 g.cs.length capg], .sl 1 al 0 2 l.length capl, .int .i64 t, .int .i64 n], [⟨ag, false, .ro, .cx g.cs⟩, ⟨al, false, .ro, .rx l⟩], _, denL_cons (e0) (denL_cons (sl.eq) (denL_cons (e2.symm) (denL_cons (e3.symm) (rfl)))), ⟨trivial, ⟨trivial, trivial⟩⟩, fun w hw b hb => (by simp only [List.mem_cons, List.not_mem_nil, or_false] at hb; rcases hb with rfl | rfl <;> first | exact vwg w hw | exact sl.ok w hw), hK, Nat.le_of_ble_eq_true rfl, ?_⟩
      clear hK
      rcases run_ways g l t n with ⟨hv, hr, hn, hE, hG, hU⟩ | ⟨hv, hr, hn, hE, hG, hU⟩ | ⟨hv, hr, hn, hE, hG, hU⟩ | ⟨hv, hr, hn, hE, hG, hU, hl, hbb, hro, hru, hub⟩
      all_goals (repeat' (first | (refine Wk.op ?_; intro K' hK') | (refine Wk.xqOp ?_; intro K' hK') | (refine Wk.rgOne ?_; intro K' hK') | (refine Wk.rgPure ?_; intro K' hK') | (refine Wk.rgX ?_; intro K' hK') | (refine Wk.xqNew ?_; intro K' hK') | (refine Wk.xqEnd ?_) | (refine Wk.rgDone ?_) | (refine Wk.rgTwo ?_ ?_ <;> intro K' hK') | (refine Wk.rgH ?_ ?_) | (refine Wk.rsTake ?_; intro K' hK') | (refine Wk.rsOne ?_ (fun K' hK' => ?_)) | (refine Wk.rsTwo ?_ ?_ (fun K' hK' => ?_) (fun K' hK' => ?_)) | (refine Wk.rsDone ?_) | (refine hK' _ _ ?_ ?_ <;> clear hK' K') | (refine hK' _ _ ?_; clear hK' K') | (refine hK' _ ?_; clear hK' K') | (refine hKT _ ?_; clear hKT hKF KT KF) | (refine hKF _ ?_; clear hKT hKF KT KF) | (refine Wk.cond ?_; intro KT KF hKT hKF) | (refine Wk.ret ?_) | (refine Wk.draw ?_ ?_ ?_; rotate_left 2; (intro K' hK')) | (refine Wk.step rfl ?_) | (refine Wk.done ?_) | (refine Fin.plain trivial ?_) | ((with_reducible refine top_goal ?_); kernel_rfl) | ((with_reducible refine takes_goal ?_); kernel_rfl) | ((with_reducible refine drop_goal ?_); kernel_rfl) | ((with_reducible refine held_goal ?_); (repeat refine And.intro rfl ?_); exact trivial) | ((with_reducible refine allB_goal ?_); kernel_rfl) | ((with_reducible refine mine_goal ?_); exact mine_of rfl) | ((with_reducible refine withV_goal ?_); refine withV_mk rfl ?_) | ((with_reducible refine hsel_goal ?_); (first | (exact hsel.nil) | (refine hsel.take (HB.like.refl _) (.inr fun _ h => h) ?_) | (refine hsel.take (like_l ?_) (.inl rfl) ?_) | (refine hsel.take (like_cts ?_) (.inl rfl) ?_) | (refine hsel.skip (spare_own rfl rfl) ?_) | (refine hsel.skip spare_ro ?_))) | (refine denL_cons ?_ ?_) | (refine sl_like ?_) | (refine And.intro ?_ ?_) | (intro hq; (try simp only [BF.H, Cel.eta, Rul.eta, Grd.eta, if_true, if_false, Int.toNat_natCast, Nat.add_zero] at hq); (try simp only [hv, hr, timesP, decide_eq_true_eq, decide_eq_false_iff_not] at hq); (try (exfalso; first | omega | (simp [BF.b] at hq; done))))))
      all_goals (try simp only [Cel.eta, Rul.eta, Grd.eta, if_true, if_false, Int.toNat_natCast, Int.toNat_zero, Nat.add_zero, Nat.zero_add])
      all_goals (first | (with_reducible rfl) | (with_reducible exact trivial) | (with_reducible exact splitN_zero) | ((with_reducible refine fsub_goal ?_); exact trivial) | (with_reducible assumption) | ((with_reducible refine ble_goal ?_); rfl) | ((with_reducible refine ble2_goal ?_); (first | rfl | kernel_rfl)) | ((with_reducible refine beq_goal ?_); rfl) | omega | skip)
      all_goals (first | assumption | (with_reducible rfl) | omega | (simp only [Cts.len, List.length_nil]; done) | (simp only [Cts.len, List.length_nil, Int.toNat_natCast, Nat.add_zero, Nat.zero_add]; omega) | exact isSome_of (by assumption) | (simp only [Cts.len, Int.toNat_natCast, Nat.add_zero, Nat.zero_add] at *; first | assumption | omega) | exact int_eq (by omega) | exact cst_eq (by omega) | exact lit_eq (by omega) | exact posg (by omega) | exact opt_getD (posg (by omega)) _ | exact posl (by omega) | exact opt_getD (posl (by omega)) _ | exact absurd (of_decide_eq_true hq) hn | exact absurd hn (of_decide_eq_false hq) | exact hp3.1 | exact hp3.2 | exact hp4.1 | exact hp4.2 | (exfalso; simp only [timesP, decide_eq_true_eq, decide_eq_false_iff_not] at *; omega) | (simp only [hE]; rfl) | (simp only [hv, hr] at *; omega) | (exfalso; simp only [BF.H, BF.b] at *; omega))
    · exact hK.elim
def G59 : List (Nat × Ctr) := (102, c_grid_asked) :: G58
theorem okG59 : GsOk Try.prog G59 := GsOk.cons k_grid_asked okG58
def c_refB_runError : Ctr := fun args hp K => match args with
  | [x0, x1, x2, x3] => g1 x0 hp fun g => lr x1 hp fun l => i1 x2 fun t => i1 x3 fun n => (g.cs.length ≤ 1200 ∧ l.length ≤ 40 ∧ I64 t ∧ I64 n) ∧ K (.int .i64 (runE g l t n))
  | _ => False
noncomputable def X_refB_runError : Env Try.prog := ⟨Try.f105.ntmps, TT, G59, E35, Try.f105.results.toList, [], TT_ok, okG59, okE35, mixed⟩
set_option maxHeartbeats 4000000 in
theorem k_refB_runError : COk Try.prog 105 c_refB_runError :=
  ctr_of_wk X_refB_runError Try.func105 rfl (by kernel_rfl) rfl rfl fun args hp K hK => by
    unfold c_refB_runError at hK
    split at hK
    · obtain ⟨g, ag, capg, hK1, e0, posg, vwg⟩ := iff_g1 hK; clear hK; have hK := hK1; clear hK1
      obtain ⟨l, al, capl, hK1, sl⟩ := iff_lr hK; clear hK; have hK := hK1; clear hK1
      have posl : 0 < l.length → al.isSome = true := sl.pos
      obtain ⟨t, hK1, e2⟩ := iff_i1 hK; clear hK; have hK := hK1; clear hK1
      obtain ⟨n, hK1, e3⟩ := iff_i1 hK; clear hK; have hK := hK1; clear hK1
      obtain ⟨hpre, hK⟩ := hK
      obtain ⟨hp1, hp2, hp3, hp4⟩ := hpre
      refine ⟨[.agg [.int .i64 g.w, .int .i64 g.h, .sl 0 ag 0 4 g.cs.length capg], .sl 1 al 0 2 l.length capl, .int .i64 t, .int .i64 n], [⟨ag, false, .ro, .cx g.cs⟩, ⟨al, false, .ro, .rx l⟩], _, denL_cons (e0) (denL_cons (sl.eq) (denL_cons (e2.symm) (denL_cons (e3.symm) (rfl)))), ⟨trivial, ⟨trivial, trivial⟩⟩, fun w hw b hb => (by simp only [List.mem_cons, List.not_mem_nil, or_false] at hb; rcases hb with rfl | rfl <;> first | exact vwg w hw | exact sl.ok w hw), hK, Nat.le_of_ble_eq_true rfl, ?_⟩
      clear hK
      rcases run_ways g l t n with ⟨hv, hr, hn, hE, hG, hU⟩ | ⟨hv, hr, hn, hE, hG, hU⟩ | ⟨hv, hr, hn, hE, hG, hU⟩ | ⟨hv, hr, hn, hE, hG, hU, hl, hbb, hro, hru, hub⟩
      all_goals (repeat' (first | (refine Wk.op ?_; intro K' hK') | (refine Wk.xqOp ?_; intro K' hK') | (refine Wk.rgOne ?_; intro K' hK') | (refine Wk.rgPure ?_; intro K' hK') | (refine Wk.rgX ?_; intro K' hK') | (refine Wk.xqNew ?_; intro K' hK') | (refine Wk.xqEnd ?_) | (refine Wk.rgDone ?_) | (refine Wk.rgTwo ?_ ?_ <;> intro K' hK') | (refine Wk.rgH ?_ ?_) | (refine Wk.rsTake ?_; intro K' hK') | (refine Wk.rsOne ?_ (fun K' hK' => ?_)) | (refine Wk.rsTwo ?_ ?_ (fun K' hK' => ?_) (fun K' hK' => ?_)) | (refine Wk.rsDone ?_) | (refine hK' _ _ ?_ ?_ <;> clear hK' K') | (refine hK' _ _ ?_; clear hK' K') | (refine hK' _ ?_; clear hK' K') | (refine hKT _ ?_; clear hKT hKF KT KF) | (refine hKF _ ?_; clear hKT hKF KT KF) | (refine Wk.cond ?_; intro KT KF hKT hKF) | (refine Wk.ret ?_) | (refine Wk.draw ?_ ?_ ?_; rotate_left 2; (intro K' hK')) | (refine Wk.step rfl ?_) | (refine Wk.done ?_) | (refine Fin.plain trivial ?_) | ((with_reducible refine top_goal ?_); kernel_rfl) | ((with_reducible refine takes_goal ?_); kernel_rfl) | ((with_reducible refine drop_goal ?_); kernel_rfl) | ((with_reducible refine held_goal ?_); (repeat refine And.intro rfl ?_); exact trivial) | ((with_reducible refine allB_goal ?_); kernel_rfl) | ((with_reducible refine mine_goal ?_); exact mine_of rfl) | ((with_reducible refine withV_goal ?_); refine withV_mk rfl ?_) | ((with_reducible refine hsel_goal ?_); (first | (exact hsel.nil) | (refine hsel.take (HB.like.refl _) (.inr fun _ h => h) ?_) | (refine hsel.take (like_l ?_) (.inl rfl) ?_) | (refine hsel.take (like_cts ?_) (.inl rfl) ?_) | (refine hsel.skip (spare_own rfl rfl) ?_) | (refine hsel.skip spare_ro ?_))) | (refine denL_cons ?_ ?_) | (refine sl_like ?_) | (refine And.intro ?_ ?_) | (intro hq; (try simp only [BF.H, Cel.eta, Rul.eta, Grd.eta, if_true, if_false, Int.toNat_natCast, Nat.add_zero] at hq); (try simp only [hv, hr, timesP, decide_eq_true_eq, decide_eq_false_iff_not] at hq); (try (exfalso; first | omega | (simp [BF.b] at hq; done))))))
      all_goals (try simp only [Cel.eta, Rul.eta, Grd.eta, if_true, if_false, Int.toNat_natCast, Int.toNat_zero, Nat.add_zero, Nat.zero_add])
      all_goals (first | (with_reducible rfl) | (with_reducible exact trivial) | (with_reducible exact splitN_zero) | ((with_reducible refine fsub_goal ?_); exact trivial) | (with_reducible assumption) | ((with_reducible refine ble_goal ?_); rfl) | ((with_reducible refine ble2_goal ?_); (first | rfl | kernel_rfl)) | ((with_reducible refine beq_goal ?_); rfl) | omega | skip)
      all_goals (first | assumption | (with_reducible rfl) | omega | (simp only [Cts.len, List.length_nil]; done) | (simp only [Cts.len, List.length_nil, Int.toNat_natCast, Nat.add_zero, Nat.zero_add]; omega) | exact isSome_of (by assumption) | (simp only [Cts.len, Int.toNat_natCast, Nat.add_zero, Nat.zero_add] at *; first | assumption | omega) | exact int_eq (by omega) | exact cst_eq (by omega) | exact lit_eq (by omega) | exact posg (by omega) | exact opt_getD (posg (by omega)) _ | exact posl (by omega) | exact opt_getD (posl (by omega)) _ | exact absurd (of_decide_eq_true hq) hn | exact absurd hn (of_decide_eq_false hq) | exact hp3.1 | exact hp3.2 | exact hp4.1 | exact hp4.2 | (exfalso; simp only [timesP, decide_eq_true_eq, decide_eq_false_iff_not] at *; omega) | (simp only [hE]; rfl) | (simp only [hv, hr] at *; omega) | (exfalso; simp only [BF.H, BF.b] at *; omega))
    · exact hK.elim
def G60 : List (Nat × Ctr) := (105, c_refB_runError) :: G59
theorem okG60 : GsOk Try.prog G60 := GsOk.cons k_refB_runError okG59
def c_refB_Run : ECtr := fun args hp K => match args with
  | [x0, x1, x2, x3] => g1 x0 hp fun g => lr x1 hp fun l => i1 x2 fun t => i1 x3 fun z => (g.cs.length ≤ 1200 ∧ l.length ≤ 40 ∧ I64 t ∧ I64 z) ∧ lenK hp 0 fun n => ∀ (ad : Option Nm) (cap bc : Nat), (0 < ((runG g l t z).cs).length → ad.isSome = true) → (((runG g l t z).cs).length ≤ cap ∧ cap ≤ 9223372036854775807) → appK hp ⟨ad, true, .wr 61 bc, .cx ((runG g l t z).cs)⟩ fun hp' => K (.tup [.agg [.int .i64 (runG g l t z).w, .int .i64 (runG g l t z).h, .sl n ad 0 4 ((runG g l t z).cs).length cap], .int .i64 (runE g l t z)]) hp'
  | _ => False
noncomputable def X_refB_Run : Env Try.prog := ⟨Try.f43.ntmps, TT, G60, E35, Try.f43.results.toList, [(8, .x [0, 1, 2, 3, 4, 5] [] (.one 6 (.one 7 (.done))))], TT_ok, okG60, okE35, mixed⟩
set_option maxHeartbeats 8000000 in
theorem k_refB_Run : EOk Try.prog 43 c_refB_Run :=
  eok_of_wk X_refB_Run Try.func43 rfl (by kernel_rfl) rfl rfl fun args hp K hK => by
    unfold c_refB_Run at hK
    split at hK
    · obtain ⟨g, ag, capg, hK1, e0, posg, vwg⟩ := iff_g1 hK; clear hK; have hK := hK1; clear hK1
      obtain ⟨l, al, capl, hK1, sl⟩ := iff_lr hK; clear hK; have hK := hK1; clear hK1
      have posl : 0 < l.length → al.isSome = true := sl.pos
      obtain ⟨t, hK1, e2⟩ := iff_i1 hK; clear hK; have hK := hK1; clear hK1
      obtain ⟨z, hK1, e3⟩ := iff_i1 hK; clear hK; have hK := hK1; clear hK1
      obtain ⟨hpre, hK⟩ := hK
      obtain ⟨hp1, hp2, hp3, hp4⟩ := hpre
      simp only [lenK_eq, appK_eq] at hK
      refine ⟨[.agg [.int .i64 g.w, .int .i64 g.h, .sl 0 ag 0 4 g.cs.length capg], .sl 1 al 0 2 l.length capl, .int .i64 t, .int .i64 z], [⟨ag, false, .ro, .cx g.cs⟩, ⟨al, false, .ro, .rx l⟩], denL_cons (e0) (denL_cons (sl.eq) (denL_cons (e2.symm) (denL_cons (e3.symm) (rfl)))), ⟨trivial, ⟨trivial, trivial⟩⟩, fun w hw b hb => (by simp only [List.mem_cons, List.not_mem_nil, or_false] at hb; rcases hb with rfl | rfl <;> first | exact vwg w hw | exact sl.ok w hw), Nat.le_of_ble_eq_true rfl, ?_⟩
      refine Wk.nil 61 (.cx []) rfl ?_
      rcases run_ways g l t z with ⟨hv, hr, hn, hE, hG, hU⟩ | ⟨hv, hr, hn, hE, hG, hU⟩ | ⟨hv, hr, hn, hE, hG, hU⟩ | ⟨hv, hr, hn, hE, hG, hU, hl, hbb, hro, hru, hub⟩ <;> rw [hG] at hK <;> (try (rw [show runE g l t z = 0 from hE] at hK))
      all_goals (repeat' (first | (refine Wk.op ?_; intro K' hK') | (refine Wk.xqOp ?_; intro K' hK') | (refine Wk.rgOne ?_; intro K' hK') | (refine Wk.rgPure ?_; intro K' hK') | (refine Wk.rgX ?_; intro K' hK') | (refine Wk.xqNew ?_; intro K' hK') | (refine Wk.xqEnd ?_) | (refine Wk.rgDone ?_) | (refine Wk.rgTwo ?_ ?_ <;> intro K' hK') | (refine Wk.rgH ?_ ?_) | (refine Wk.rsTake ?_; intro K' hK') | (refine Wk.rsOne ?_ (fun K' hK' => ?_)) | (refine Wk.rsTwo ?_ ?_ (fun K' hK' => ?_) (fun K' hK' => ?_)) | (refine Wk.rsDone ?_) | (refine hK' _ _ ?_ ?_ <;> clear hK' K') | (refine hK' _ _ ?_; clear hK' K') | (refine hK' _ ?_; clear hK' K') | (refine hKT _ ?_; clear hKT hKF KT KF) | (refine hKF _ ?_; clear hKT hKF KT KF) | (refine Wk.cond ?_; intro KT KF hKT hKF) | (refine Wk.ret ?_) | (refine Wk.draw ?_ ?_ ?_; rotate_left 2; (intro K' hK')) | (refine Wk.step rfl ?_) | (refine Wk.inv (X := X_refB_Run) (t := .b 0 :: _) (ι := Nat × Option Nm × Nat × Nat) (fun ⟨k, ν, cap, bc⟩ => k ≤ z.toNat ∧ ν.isSome = true ∧ g.cs.length ≤ cap ∧ cap ≤ 9223372036854775807) [1, 2, 3, 4, 8] (fun ⟨k, ν, cap, bc⟩ => [(11, .int .i64 (k : Int))]) (fun ⟨k, ν, cap, bc⟩ => [(5, fun b => ⟨ν, true, .wr 61 bc, .cx (runC g.w g.h (rho l t) g.cs k)⟩), (3, fun b => ⟨b.nm, b.own, b.kd, .l [.int .i64 g.w, .int .i64 g.h, .sl 5 ν 0 4 g.cs.length cap]⟩)]) (fun ⟨k, ν, cap, bc⟩ => z.toNat - k) ?_; intro K' hK'; refine hK' _ ?_ (fun ⟨k, ν, cap, bc⟩ hi => (have hO : k ≤ z.toNat ∧ ν.isSome = true ∧ g.cs.length ≤ cap ∧ cap ≤ 9223372036854775807 := hi; ?_)) <;> clear hK' K'; refine exAt (0) ?_; apply ex3; refine ⟨?_, ?_, ?_⟩) | (refine Wk.kp (X := X_refB_Run) (t := .b 0 :: _) [(6, 5)] ?_; intro K' hK'; refine hK' _ (exAt (k + 1) ?_); apply ex3; refine ⟨?_, ?_, ?_, ?_⟩) | (refine Wk.done ?_) | (refine Fin.plain trivial ?_) | ((with_reducible refine top_goal ?_); kernel_rfl) | ((with_reducible refine takes_goal ?_); kernel_rfl) | ((with_reducible refine drop_goal ?_); kernel_rfl) | ((with_reducible refine held_goal ?_); (repeat refine And.intro rfl ?_); exact trivial) | ((with_reducible refine allB_goal ?_); kernel_rfl) | ((with_reducible refine mine_goal ?_); exact mine_of rfl) | ((with_reducible refine withV_goal ?_); refine withV_mk rfl ?_) | ((with_reducible refine hsel_goal ?_); (first | (exact hsel.nil) | (refine hsel.take (HB.like.refl _) (.inr fun _ h => h) ?_) | (refine hsel.take (like_l ?_) (.inl rfl) ?_) | (refine hsel.take (like_cts ?_) (.inl rfl) ?_) | (refine hsel.skip (spare_own rfl rfl) ?_) | (refine hsel.skip spare_ro ?_))) | (refine denL_cons ?_ ?_) | (refine sl_like ?_) | (refine And.intro ?_ ?_) | (intro hq; (try simp only [BF.H, Cel.eta, Rul.eta, Grd.eta, if_true, if_false, Int.toNat_natCast, Nat.add_zero] at hq); (try simp only [hE] at hq); (try (exfalso; first | omega | (simp [BF.b] at hq; done))))))
      all_goals (try simp only [Cel.eta, Rul.eta, Grd.eta, if_true, if_false, Int.toNat_natCast, Int.toNat_zero, Nat.add_zero, Nat.zero_add])
      all_goals (try (first | (refine ret_slN (wrap := fun s => .tup [.agg [.int .i64 0, .int .i64 0, s], .int .i64 (runE g l t z)]) (c := .cx []) hK 2 rfl rfl rfl rfl ?_) | (refine ret_slG (wrap := fun s => .tup [.agg [.int .i64 g.w, .int .i64 g.h, s], .int .i64 0]) (c := .cx (runC g.w g.h (rho l t) g.cs z.toNat)) hK 5 ⟨_, _, _, _, rfl, den_tag (runC_length ..) rfl, ?_, ?_, ?_, ?_⟩)))
      all_goals (first | (with_reducible rfl) | (with_reducible exact trivial) | (with_reducible exact splitN_zero) | ((with_reducible refine fsub_goal ?_); exact trivial) | (with_reducible assumption) | ((with_reducible refine ble_goal ?_); rfl) | ((with_reducible refine ble2_goal ?_); (first | rfl | kernel_rfl)) | ((with_reducible refine beq_goal ?_); rfl) | omega | skip)
      all_goals (first | assumption | (with_reducible rfl) | omega | (simp only [Cts.len, List.length_nil]; done) | (simp only [Cts.len, List.length_nil, Int.toNat_natCast, Nat.add_zero, Nat.zero_add]; omega) | exact isSome_of (by assumption) | (simp only [Cts.len, Int.toNat_natCast, Nat.add_zero, Nat.zero_add] at *; first | assumption | omega) | exact int_eq (by omega) | exact cst_eq (by omega) | exact lit_eq (by omega) | exact posg (by omega) | exact opt_getD (posg (by omega)) _ | exact posl (by omega) | exact opt_getD (posl (by omega)) _ | exact hp3.1 | exact hp3.2 | exact hp4.1 | exact hp4.2 | rfl | exact mine_of rfl | exact .inl trivial | exact hO.2.1 | exact opt_getD hO.2.1 _ | exact (hro k).1 | exact (hru k).1 | exact (hub k).1 | exact (hub _).1 | (simp only [hE]; rfl) | (simp only [hE]; omega) | (simp only [hE] at *; omega) | (simp only [Cts.len, aft_length, flow_length, (hru k).2.2] at *; first | omega | done) | (simp only [Cts.len, aft_length, flow_length, (hub k).2.2] at *; first | omega | done) | (rw [runC_length]; omega) | (rw [bakC_length]; omega) | exact (‹0 < List.length _ → Option.isSome _ = true›) (by omega) | exact (‹0 < List.length _ → Option.isSome _ = true›) (by simp only [aft_length, flow_length, (hru k).2.2]; omega) | exact (‹0 < List.length _ → Option.isSome _ = true›) (by simp only [aft_length, flow_length, (hub k).2.2]; omega) | (intro _; exact hO.2.1) | exact cx_eq (by rw [show z.toNat = k by omega]) | (refine ⟨?_, ?_⟩ <;> (try simp only [Cts.len, runC_length, bakC_length, aft_length, flow_length] at *) <;> omega) | (simp only [Cts.len, runC_length, bakC_length, aft_length, flow_length]; omega))
    · exact hK.elim
noncomputable def E36 : List (Nat × ECtr) := (43, c_refB_Run) :: E35
theorem okE36 : EsOk Try.prog E36 := EsOk.cons k_refB_Run okE35
noncomputable def X_grid_steps_1 : Env Try.prog := ⟨Try.f135.ntmps, TT, G60, E36, Try.f135.results.toList, [], TT_ok, okG60, okE36, mixed⟩
noncomputable def code_grid_steps_1 : Code := match Try.f135.body with | some c => c | none => .skip
theorem k_grid_steps_1 : EOk Try.prog 135 (inl X_grid_steps_1 code_grid_steps_1) := inl_ok X_grid_steps_1 Try.func135 rfl (by kernel_rfl) rfl rfl
noncomputable def E37 : List (Nat × ECtr) := (135, inl X_grid_steps_1 code_grid_steps_1) :: E36
theorem okE37 : EsOk Try.prog E37 := EsOk.cons k_grid_steps_1 okE36
noncomputable def X_grid_steps : Env Try.prog := ⟨Try.f104.ntmps, TT, G60, E37, Try.f104.results.toList, [], TT_ok, okG60, okE37, mixed⟩
noncomputable def code_grid_steps : Code := match Try.f104.body with | some c => c | none => .skip
theorem k_grid_steps : EOk Try.prog 104 (inl X_grid_steps code_grid_steps) := inl_ok X_grid_steps Try.func104 rfl (by kernel_rfl) rfl rfl
noncomputable def E38 : List (Nat × ECtr) := (104, inl X_grid_steps code_grid_steps) :: E37
theorem okE38 : EsOk Try.prog E38 := EsOk.cons k_grid_steps okE37
noncomputable def X_slices_AppendSeq_int_int : Env Try.prog := ⟨Try.f156.ntmps, TT, G60, E38, Try.f156.results.toList, [], TT_ok, okG60, okE38, mixed⟩
noncomputable def code_slices_AppendSeq_int_int : Code := match Try.f156.body with | some c => c | none => .skip
theorem k_slices_AppendSeq_int_int : EOk Try.prog 156 (inlM X_slices_AppendSeq_int_int code_slices_AppendSeq_int_int) := inlM_ok X_slices_AppendSeq_int_int Try.func156 rfl (by kernel_rfl) rfl rfl
noncomputable def E39 : List (Nat × ECtr) := (156, inlM X_slices_AppendSeq_int_int code_slices_AppendSeq_int_int) :: E38
theorem okE39 : EsOk Try.prog E39 := EsOk.cons k_slices_AppendSeq_int_int okE38
noncomputable def X_slices_Collect_int : Env Try.prog := ⟨Try.f138.ntmps, TT, G60, E39, Try.f138.results.toList, [], TT_ok, okG60, okE39, mixed⟩
noncomputable def code_slices_Collect_int : Code := match Try.f138.body with | some c => c | none => .skip
theorem k_slices_Collect_int : EOk Try.prog 138 (inl X_slices_Collect_int code_slices_Collect_int) := inl_ok X_slices_Collect_int Try.func138 rfl (by kernel_rfl) rfl rfl
noncomputable def E40 : List (Nat × ECtr) := (138, inl X_slices_Collect_int code_slices_Collect_int) :: E39
theorem okE40 : EsOk Try.prog E40 := EsOk.cons k_slices_Collect_int okE39
noncomputable def X_slices_Reverse_int_int : Env Try.prog := ⟨Try.f139.ntmps, TT, G60, E40, Try.f139.results.toList, [(3, .x [0, 1, 2, 3, 4, 5, 6, 7, 8, 9, 10, 11, 12] [] (.one 13 (.one 14 (.one 15 (.done)))))], TT_ok, okG60, okE40, mixed⟩
noncomputable def code_slices_Reverse_int_int : Code := match Try.f139.body with | some c => c | none => .skip
theorem k_slices_Reverse_int_int : EOk Try.prog 139 (inl X_slices_Reverse_int_int code_slices_Reverse_int_int) := inl_ok X_slices_Reverse_int_int Try.func139 rfl (by kernel_rfl) rfl rfl
noncomputable def E41 : List (Nat × ECtr) := (139, inl X_slices_Reverse_int_int code_slices_Reverse_int_int) :: E40
theorem okE41 : EsOk Try.prog E41 := EsOk.cons k_slices_Reverse_int_int okE40
noncomputable def X_slices_Values_int_int_1 : Env Try.prog := ⟨Try.f157.ntmps, TT, G60, E41, Try.f157.results.toList, [], TT_ok, okG60, okE41, mixed⟩
noncomputable def code_slices_Values_int_int_1 : Code := match Try.f157.body with | some c => c | none => .skip
theorem k_slices_Values_int_int_1 : EOk Try.prog 157 (inl X_slices_Values_int_int_1 code_slices_Values_int_int_1) := inl_ok X_slices_Values_int_int_1 Try.func157 rfl (by kernel_rfl) rfl rfl
noncomputable def E42 : List (Nat × ECtr) := (157, inl X_slices_Values_int_int_1 code_slices_Values_int_int_1) :: E41
theorem okE42 : EsOk Try.prog E42 := EsOk.cons k_slices_Values_int_int_1 okE41
end Go.Proofs.Ytbcajalaopjmdaa

/- Contracts: what the functions hand back. -/
import Derived.Test.YtcagdjbinkadpaaT
import Derived.Test.YtcagdjbinkadpaaSyJ
import Derived.Test.YtcagdjbinkadpaaSpAdd
import Derived.Test.YtcagdjbinkadpaaSpOrder
import Derived.Test.YtcagdjbinkadpaaSpXch
import Derived.Test.YtcagdjbinkadpaaSyK
set_option linter.unusedSimpArgs false
set_option linter.unusedVariables false
set_option maxRecDepth 100000
namespace Go.Proofs.Ytcagdjbinkadpaa
open Go.Sy Go.RowKit

def G0 : List (Nat × Ctr) := []
theorem okG0 : GsOk Try.prog G0 := GsOk.nil _
def E0 : List (Nat × ECtr) := []
theorem okE0 : EsOk Try.prog E0 := EsOk.nil _
def c_cell_within : Ctr := fun args _ K => match args with
  | [x0, x1, x2] => i1 x0 fun n => i1 x1 fun lo => i1 x2 fun hi => K (.bool (.and (.le lo n) (.le n hi)))
  | _ => False
noncomputable def X_cell_within : Env Try.prog := ⟨Try.f89.ntmps, TT, G0, E0, Try.f89.results.toList, [], TT_ok, okG0, okE0, mixed⟩
theorem k_cell_within : COk Try.prog 89 c_cell_within :=
  ctr_of_wk X_cell_within Try.func89 rfl (by kernel_rfl) rfl rfl fun args hp K hK => by
    unfold c_cell_within at hK
    split at hK
    · obtain ⟨n, hK1, e0⟩ := iff_i1 hK; clear hK; have hK := hK1; clear hK1
      obtain ⟨lo, hK1, e1⟩ := iff_i1 hK; clear hK; have hK := hK1; clear hK1
      obtain ⟨hi, hK1, e2⟩ := iff_i1 hK; clear hK; have hK := hK1; clear hK1
      refine ⟨[.int .i64 n, .int .i64 lo, .int .i64 hi], [], _, denL_cons (e0.symm) (denL_cons (e1.symm) (denL_cons (e2.symm) (rfl))), trivial, fun _ _ b hb => (by cases hb), hK, Nat.le_of_ble_eq_true rfl, ?_⟩
      clear hK
      repeat' (first | (refine Wk.op ?_; intro K' hK') | (refine Wk.xqOp ?_; intro K' hK') | (refine Wk.rgOne ?_; intro K' hK') | (refine Wk.rgPure ?_; intro K' hK') | (refine Wk.rgX ?_; intro K' hK') | (refine Wk.xqNew ?_; intro K' hK') | (refine Wk.xqEnd ?_) | (refine Wk.rgDone ?_) | (refine Wk.rgTwo ?_ ?_ <;> intro K' hK') | (refine Wk.rgH ?_ ?_) | (refine Wk.rsTake ?_; intro K' hK') | (refine Wk.rsOne ?_ (fun K' hK' => ?_)) | (refine Wk.rsTwo ?_ ?_ (fun K' hK' => ?_) (fun K' hK' => ?_)) | (refine Wk.rsDone ?_) | (refine hK' _ _ ?_ ?_ <;> clear hK' K') | (refine hK' _ _ ?_; clear hK' K') | (refine hK' _ ?_; clear hK' K') | (refine hKT _ ?_; clear hKT hKF KT KF) | (refine hKF _ ?_; clear hKT hKF KT KF) | (refine Wk.cond ?_; intro KT KF hKT hKF) | (refine Wk.ret ?_) | (refine Wk.draw ?_ ?_ ?_; rotate_left 2; (intro K' hK')) | (refine Wk.step rfl ?_) | (refine Wk.done ?_) | (refine Fin.plain trivial ?_) | ((with_reducible refine top_goal ?_); kernel_rfl) | ((with_reducible refine takes_goal ?_); kernel_rfl) | ((with_reducible refine drop_goal ?_); kernel_rfl) | ((with_reducible refine held_goal ?_); (repeat refine And.intro rfl ?_); exact trivial) | ((with_reducible refine allB_goal ?_); kernel_rfl) | ((with_reducible refine mine_goal ?_); exact mine_of rfl) | ((with_reducible refine withV_goal ?_); refine withV_mk rfl ?_) | ((with_reducible refine hsel_goal ?_); (first | (exact hsel.nil) | (refine hsel.take (HB.like.refl _) (.inr fun _ h => h) ?_) | (refine hsel.take (like_cts ?_) (.inl rfl) ?_) | (refine hsel.skip (spare_own rfl rfl) ?_) | (refine hsel.skip spare_ro ?_))) | (refine And.intro ?_ ?_) | (intro hq; (try simp only [BF.H, Cel.eta, Rul.eta, Grd.eta, if_true, if_false] at hq); (try (exfalso; first | omega | (simp [BF.b] at hq; done)))))
      all_goals (try simp only [Cel.eta, Rul.eta, Grd.eta, if_true, if_false])
      all_goals (first | (with_reducible rfl) | (with_reducible exact trivial) | (with_reducible exact splitN_zero) | ((with_reducible refine fsub_goal ?_); exact trivial) | (with_reducible assumption) | ((with_reducible refine ble_goal ?_); rfl) | ((with_reducible refine ble2_goal ?_); (first | rfl | kernel_rfl)) | ((with_reducible refine beq_goal ?_); rfl) | omega | skip)
      all_goals (first | (simp [Cel.eta, Rul.eta, Grd.eta, den, denL, den_ofConst, BF.b, bfOf, Cel.sv, Rul.sv]; done) | (simp [Cel.eta, Rul.eta, Grd.eta, den, denL, den_ofConst, BF.b, bfOf, Cel.sv, Rul.sv]; omega) | (simp [Cel.eta, Rul.eta, Grd.eta, den, denL, den_ofConst, BF.b, bfOf, Cel.sv, Rul.sv]; (repeat' split) <;> omega) | (simp [Cel.eta, Rul.eta, Grd.eta, den, denL, den_ofConst, BF.b, bfOf, Cel.sv, Rul.sv]; rw [Bool.eq_iff_iff]; (repeat' split) <;> simp <;> omega) | (simp [Cel.eta, Rul.eta, Grd.eta, den, denL, den_ofConst, BF.b, bfOf, Cel.sv, Rul.sv, *]; done) | (simp [Cel.eta, Rul.eta, Grd.eta, den, denL, den_ofConst, BF.b, bfOf, Cel.sv, Rul.sv, *]; omega))
    · exact hK.elim
def G1 : List (Nat × Ctr) := (89, c_cell_within) :: G0
theorem okG1 : GsOk Try.prog G1 := GsOk.cons k_cell_within okG0
def c_refA_within : Ctr := fun args _ K => match args with
  | [x0, x1, x2] => i1 x0 fun n => i1 x1 fun lo => i1 x2 fun hi => K (.bool (.and (.le lo n) (.le n hi)))
  | _ => False
noncomputable def X_refA_within : Env Try.prog := ⟨Try.f88.ntmps, TT, G1, E0, Try.f88.results.toList, [], TT_ok, okG1, okE0, mixed⟩
theorem k_refA_within : COk Try.prog 88 c_refA_within :=
  ctr_of_wk X_refA_within Try.func88 rfl (by kernel_rfl) rfl rfl fun args hp K hK => by
    unfold c_refA_within at hK
    split at hK
    · obtain ⟨n, hK1, e0⟩ := iff_i1 hK; clear hK; have hK := hK1; clear hK1
      obtain ⟨lo, hK1, e1⟩ := iff_i1 hK; clear hK; have hK := hK1; clear hK1
      obtain ⟨hi, hK1, e2⟩ := iff_i1 hK; clear hK; have hK := hK1; clear hK1
      refine ⟨[.int .i64 n, .int .i64 lo, .int .i64 hi], [], _, denL_cons (e0.symm) (denL_cons (e1.symm) (denL_cons (e2.symm) (rfl))), trivial, fun _ _ b hb => (by cases hb), hK, Nat.le_of_ble_eq_true rfl, ?_⟩
      clear hK
      repeat' (first | (refine Wk.op ?_; intro K' hK') | (refine Wk.xqOp ?_; intro K' hK') | (refine Wk.rgOne ?_; intro K' hK') | (refine Wk.rgPure ?_; intro K' hK') | (refine Wk.rgX ?_; intro K' hK') | (refine Wk.xqNew ?_; intro K' hK') | (refine Wk.xqEnd ?_) | (refine Wk.rgDone ?_) | (refine Wk.rgTwo ?_ ?_ <;> intro K' hK') | (refine Wk.rgH ?_ ?_) | (refine Wk.rsTake ?_; intro K' hK') | (refine Wk.rsOne ?_ (fun K' hK' => ?_)) | (refine Wk.rsTwo ?_ ?_ (fun K' hK' => ?_) (fun K' hK' => ?_)) | (refine Wk.rsDone ?_) | (refine hK' _ _ ?_ ?_ <;> clear hK' K') | (refine hK' _ _ ?_; clear hK' K') | (refine hK' _ ?_; clear hK' K') | (refine hKT _ ?_; clear hKT hKF KT KF) | (refine hKF _ ?_; clear hKT hKF KT KF) | (refine Wk.cond ?_; intro KT KF hKT hKF) | (refine Wk.ret ?_) | (refine Wk.draw ?_ ?_ ?_; rotate_left 2; (intro K' hK')) | (refine Wk.step rfl ?_) | (refine Wk.done ?_) | (refine Fin.plain trivial ?_) | ((with_reducible refine top_goal ?_); kernel_rfl) | ((with_reducible refine takes_goal ?_); kernel_rfl) | ((with_reducible refine drop_goal ?_); kernel_rfl) | ((with_reducible refine held_goal ?_); (repeat refine And.intro rfl ?_); exact trivial) | ((with_reducible refine allB_goal ?_); kernel_rfl) | ((with_reducible refine mine_goal ?_); exact mine_of rfl) | ((with_reducible refine withV_goal ?_); refine withV_mk rfl ?_) | ((with_reducible refine hsel_goal ?_); (first | (exact hsel.nil) | (refine hsel.take (HB.like.refl _) (.inr fun _ h => h) ?_) | (refine hsel.take (like_cts ?_) (.inl rfl) ?_) | (refine hsel.skip (spare_own rfl rfl) ?_) | (refine hsel.skip spare_ro ?_))) | (refine And.intro ?_ ?_) | (intro hq; (try simp only [BF.H, Cel.eta, Rul.eta, Grd.eta, if_true, if_false] at hq); (try (exfalso; first | omega | (simp [BF.b] at hq; done)))))
      all_goals (try simp only [Cel.eta, Rul.eta, Grd.eta, if_true, if_false])
      all_goals (first | (with_reducible rfl) | (with_reducible exact trivial) | (with_reducible exact splitN_zero) | ((with_reducible refine fsub_goal ?_); exact trivial) | (with_reducible assumption) | ((with_reducible refine ble_goal ?_); rfl) | ((with_reducible refine ble2_goal ?_); (first | rfl | kernel_rfl)) | ((with_reducible refine beq_goal ?_); rfl) | omega | skip)
      all_goals (first | (simp [Cel.eta, Rul.eta, Grd.eta, den, denL, den_ofConst, BF.b, bfOf, Cel.sv, Rul.sv]; done) | (simp [Cel.eta, Rul.eta, Grd.eta, den, denL, den_ofConst, BF.b, bfOf, Cel.sv, Rul.sv]; omega) | (simp [Cel.eta, Rul.eta, Grd.eta, den, denL, den_ofConst, BF.b, bfOf, Cel.sv, Rul.sv]; (repeat' split) <;> omega) | (simp [Cel.eta, Rul.eta, Grd.eta, den, denL, den_ofConst, BF.b, bfOf, Cel.sv, Rul.sv]; rw [Bool.eq_iff_iff]; (repeat' split) <;> simp <;> omega) | (simp [Cel.eta, Rul.eta, Grd.eta, den, denL, den_ofConst, BF.b, bfOf, Cel.sv, Rul.sv, *]; done) | (simp [Cel.eta, Rul.eta, Grd.eta, den, denL, den_ofConst, BF.b, bfOf, Cel.sv, Rul.sv, *]; omega))
    · exact hK.elim
def G2 : List (Nat × Ctr) := (88, c_refA_within) :: G1
theorem okG2 : GsOk Try.prog G2 := GsOk.cons k_refA_within okG1
def c_cell_sum : Ctr := fun args hp K => match args with
  | [x0] => s4 x0 hp fun c => K (.int .i64 (Cel.sum c))
  | _ => False
noncomputable def X_cell_sum : Env Try.prog := ⟨Try.f87.ntmps, TT, G2, E0, Try.f87.results.toList, [], TT_ok, okG2, okE0, mixed⟩
theorem k_cell_sum : COk Try.prog 87 c_cell_sum :=
  ctr_of_wk X_cell_sum Try.func87 rfl (by kernel_rfl) rfl rfl fun args hp K hK => by
    unfold c_cell_sum at hK
    split at hK
    · obtain ⟨c, nmc, capc, hK1, e0, vwc⟩ := iff_s4 hK; clear hK; have hK := hK1; clear hK1
      refine ⟨[.sub 0 nmc 0 0 0 4 capc], [⟨some nmc, false, .ro, .l [.int .i64 c.e, .int .i64 c.n, .int .i64 c.w, .int .i64 c.s]⟩], _, denL_cons (e0) (rfl), ⟨trivial, trivial⟩, fun w hw b hb => (by rw [List.mem_singleton] at hb; subst hb; exact vwc w hw), hK, Nat.le_of_ble_eq_true rfl, ?_⟩
      clear hK
      repeat' (first | (refine Wk.op ?_; intro K' hK') | (refine Wk.xqOp ?_; intro K' hK') | (refine Wk.rgOne ?_; intro K' hK') | (refine Wk.rgPure ?_; intro K' hK') | (refine Wk.rgX ?_; intro K' hK') | (refine Wk.xqNew ?_; intro K' hK') | (refine Wk.xqEnd ?_) | (refine Wk.rgDone ?_) | (refine Wk.rgTwo ?_ ?_ <;> intro K' hK') | (refine Wk.rgH ?_ ?_) | (refine Wk.rsTake ?_; intro K' hK') | (refine Wk.rsOne ?_ (fun K' hK' => ?_)) | (refine Wk.rsTwo ?_ ?_ (fun K' hK' => ?_) (fun K' hK' => ?_)) | (refine Wk.rsDone ?_) | (refine hK' _ _ ?_ ?_ <;> clear hK' K') | (refine hK' _ _ ?_; clear hK' K') | (refine hK' _ ?_; clear hK' K') | (refine hKT _ ?_; clear hKT hKF KT KF) | (refine hKF _ ?_; clear hKT hKF KT KF) | (refine Wk.cond ?_; intro KT KF hKT hKF) | (refine Wk.ret ?_) | (refine Wk.draw ?_ ?_ ?_; rotate_left 2; (intro K' hK')) | (refine Wk.step rfl ?_) | (refine Wk.rounds (X := X_cell_sum) (t := .b 0 :: _) 5 ?_) | (refine Wk.done ?_) | (refine Fin.plain trivial ?_) | ((with_reducible refine top_goal ?_); kernel_rfl) | ((with_reducible refine takes_goal ?_); kernel_rfl) | ((with_reducible refine drop_goal ?_); kernel_rfl) | ((with_reducible refine held_goal ?_); (repeat refine And.intro rfl ?_); exact trivial) | ((with_reducible refine allB_goal ?_); kernel_rfl) | ((with_reducible refine mine_goal ?_); exact mine_of rfl) | ((with_reducible refine withV_goal ?_); refine withV_mk rfl ?_) | ((with_reducible refine hsel_goal ?_); (first | (exact hsel.nil) | (refine hsel.take (HB.like.refl _) (.inr fun _ h => h) ?_) | (refine hsel.take (like_cts ?_) (.inl rfl) ?_) | (refine hsel.skip (spare_own rfl rfl) ?_) | (refine hsel.skip spare_ro ?_))) | (refine And.intro ?_ ?_) | (intro hq; (try simp only [BF.H, Cel.eta, Rul.eta, Grd.eta, if_true, if_false] at hq); (try (exfalso; first | omega | (simp [BF.b] at hq; done)))))
      all_goals (try simp only [Cel.eta, Rul.eta, Grd.eta, if_true, if_false])
      all_goals (first | (with_reducible rfl) | (with_reducible exact trivial) | (with_reducible exact splitN_zero) | ((with_reducible refine fsub_goal ?_); exact trivial) | (with_reducible assumption) | ((with_reducible refine ble_goal ?_); rfl) | ((with_reducible refine ble2_goal ?_); (first | rfl | kernel_rfl)) | ((with_reducible refine beq_goal ?_); rfl) | omega | skip)
      all_goals (first | (simp [Cel.eta, Rul.eta, Grd.eta, den, denL, den_ofConst, BF.b, bfOf, Cel.sv, Rul.sv, Cel.sum, Cel.ok]; done) | (simp [Cel.eta, Rul.eta, Grd.eta, den, denL, den_ofConst, BF.b, bfOf, Cel.sv, Rul.sv, Cel.sum, Cel.ok]; omega) | (simp [Cel.eta, Rul.eta, Grd.eta, den, denL, den_ofConst, BF.b, bfOf, Cel.sv, Rul.sv, Cel.sum, Cel.ok]; (repeat' split) <;> omega) | (simp [Cel.eta, Rul.eta, Grd.eta, den, denL, den_ofConst, BF.b, bfOf, Cel.sv, Rul.sv, Cel.sum, Cel.ok]; rw [Bool.eq_iff_iff]; (repeat' split) <;> simp <;> omega) | (simp [Cel.eta, Rul.eta, Grd.eta, den, denL, den_ofConst, BF.b, bfOf, Cel.sv, Rul.sv, Cel.sum, Cel.ok, *]; done) | (simp [Cel.eta, Rul.eta, Grd.eta, den, denL, den_ofConst, BF.b, bfOf, Cel.sv, Rul.sv, Cel.sum, Cel.ok, *]; omega))
    · exact hK.elim
def G3 : List (Nat × Ctr) := (87, c_cell_sum) :: G2
theorem okG3 : GsOk Try.prog G3 := GsOk.cons k_cell_sum okG2
def c_cell_Valid : Ctr := fun args _ K => match args with
  | [x0] => c1 x0 fun c => K (.bool (.atom (Cel.ok c)))
  | _ => False
noncomputable def X_cell_Valid : Env Try.prog := ⟨Try.f32.ntmps, TT, G3, E0, Try.f32.results.toList, [], TT_ok, okG3, okE0, mixed⟩
theorem k_cell_Valid : COk Try.prog 32 c_cell_Valid :=
  ctr_of_wk X_cell_Valid Try.func32 rfl (by kernel_rfl) rfl rfl fun args hp K hK => by
    unfold c_cell_Valid at hK
    split at hK
    · obtain ⟨c, hK1, e0⟩ := iff_c1 hK; clear hK; have hK := hK1; clear hK1
      refine ⟨[Cel.sv c], [], _, denL_cons (e0.symm) (rfl), trivial, fun _ _ b hb => (by cases hb), hK, Nat.le_of_ble_eq_true rfl, ?_⟩
      clear hK
      repeat' (first | (refine Wk.op ?_; intro K' hK') | (refine Wk.xqOp ?_; intro K' hK') | (refine Wk.rgOne ?_; intro K' hK') | (refine Wk.rgPure ?_; intro K' hK') | (refine Wk.rgX ?_; intro K' hK') | (refine Wk.xqNew ?_; intro K' hK') | (refine Wk.xqEnd ?_) | (refine Wk.rgDone ?_) | (refine Wk.rgTwo ?_ ?_ <;> intro K' hK') | (refine Wk.rgH ?_ ?_) | (refine Wk.rsTake ?_; intro K' hK') | (refine Wk.rsOne ?_ (fun K' hK' => ?_)) | (refine Wk.rsTwo ?_ ?_ (fun K' hK' => ?_) (fun K' hK' => ?_)) | (refine Wk.rsDone ?_) | (refine hK' _ _ ?_ ?_ <;> clear hK' K') | (refine hK' _ _ ?_; clear hK' K') | (refine hK' _ ?_; clear hK' K') | (refine hKT _ ?_; clear hKT hKF KT KF) | (refine hKF _ ?_; clear hKT hKF KT KF) | (refine Wk.cond ?_; intro KT KF hKT hKF) | (refine Wk.ret ?_) | (refine Wk.draw ?_ ?_ ?_; rotate_left 2; (intro K' hK')) | (refine Wk.step rfl ?_) | (refine Wk.done ?_) | (refine Fin.plain trivial ?_) | ((with_reducible refine top_goal ?_); kernel_rfl) | ((with_reducible refine takes_goal ?_); kernel_rfl) | ((with_reducible refine drop_goal ?_); kernel_rfl) | ((with_reducible refine held_goal ?_); (repeat refine And.intro rfl ?_); exact trivial) | ((with_reducible refine allB_goal ?_); kernel_rfl) | ((with_reducible refine mine_goal ?_); exact mine_of rfl) | ((with_reducible refine withV_goal ?_); refine withV_mk rfl ?_) | ((with_reducible refine hsel_goal ?_); (first | (exact hsel.nil) | (refine hsel.take (HB.like.refl _) (.inr fun _ h => h) ?_) | (refine hsel.take (like_cts ?_) (.inl rfl) ?_) | (refine hsel.skip (spare_own rfl rfl) ?_) | (refine hsel.skip spare_ro ?_))) | (refine And.intro ?_ ?_) | (intro hq; (try simp only [BF.H, Cel.eta, Rul.eta, Grd.eta, if_true, if_false] at hq); (try (exfalso; first | omega | (simp [BF.b] at hq; done)))))
      all_goals (try simp only [Cel.eta, Rul.eta, Grd.eta, if_true, if_false])
      all_goals (first | (with_reducible rfl) | (with_reducible exact trivial) | (with_reducible exact splitN_zero) | ((with_reducible refine fsub_goal ?_); exact trivial) | (with_reducible assumption) | ((with_reducible refine ble_goal ?_); rfl) | ((with_reducible refine ble2_goal ?_); (first | rfl | kernel_rfl)) | ((with_reducible refine beq_goal ?_); rfl) | omega | skip)
      all_goals (first | (simp [Cel.eta, Rul.eta, Grd.eta, den, denL, den_ofConst, BF.b, bfOf, Cel.sv, Rul.sv, Cel.sum, Cel.ok]; done) | (simp [Cel.eta, Rul.eta, Grd.eta, den, denL, den_ofConst, BF.b, bfOf, Cel.sv, Rul.sv, Cel.sum, Cel.ok]; omega) | (simp [Cel.eta, Rul.eta, Grd.eta, den, denL, den_ofConst, BF.b, bfOf, Cel.sv, Rul.sv, Cel.sum, Cel.ok]; (repeat' split) <;> omega) | (simp [Cel.eta, Rul.eta, Grd.eta, den, denL, den_ofConst, BF.b, bfOf, Cel.sv, Rul.sv, Cel.sum, Cel.ok]; rw [Bool.eq_iff_iff]; (repeat' split) <;> simp <;> omega) | (simp [Cel.eta, Rul.eta, Grd.eta, den, denL, den_ofConst, BF.b, bfOf, Cel.sv, Rul.sv, Cel.sum, Cel.ok, *]; done) | (simp [Cel.eta, Rul.eta, Grd.eta, den, denL, den_ofConst, BF.b, bfOf, Cel.sv, Rul.sv, Cel.sum, Cel.ok, *]; omega))
    · exact hK.elim
def G4 : List (Nat × Ctr) := (32, c_cell_Valid) :: G3
theorem okG4 : GsOk Try.prog G4 := GsOk.cons k_cell_Valid okG3
def c_refA_Valid : Ctr := fun args _ K => match args with
  | [x0] => c1 x0 fun c => K (.bool (.atom (Cel.ok c)))
  | _ => False
noncomputable def X_refA_Valid : Env Try.prog := ⟨Try.f33.ntmps, TT, G4, E0, Try.f33.results.toList, [], TT_ok, okG4, okE0, mixed⟩
theorem k_refA_Valid : COk Try.prog 33 c_refA_Valid :=
  ctr_of_wk X_refA_Valid Try.func33 rfl (by kernel_rfl) rfl rfl fun args hp K hK => by
    unfold c_refA_Valid at hK
    split at hK
    · obtain ⟨c, hK1, e0⟩ := iff_c1 hK; clear hK; have hK := hK1; clear hK1
      refine ⟨[Cel.sv c], [], _, denL_cons (e0.symm) (rfl), trivial, fun _ _ b hb => (by cases hb), hK, Nat.le_of_ble_eq_true rfl, ?_⟩
      clear hK
      repeat' (first | (refine Wk.op ?_; intro K' hK') | (refine Wk.xqOp ?_; intro K' hK') | (refine Wk.rgOne ?_; intro K' hK') | (refine Wk.rgPure ?_; intro K' hK') | (refine Wk.rgX ?_; intro K' hK') | (refine Wk.xqNew ?_; intro K' hK') | (refine Wk.xqEnd ?_) | (refine Wk.rgDone ?_) | (refine Wk.rgTwo ?_ ?_ <;> intro K' hK') | (refine Wk.rgH ?_ ?_) | (refine Wk.rsTake ?_; intro K' hK') | (refine Wk.rsOne ?_ (fun K' hK' => ?_)) | (refine Wk.rsTwo ?_ ?_ (fun K' hK' => ?_) (fun K' hK' => ?_)) | (refine Wk.rsDone ?_) | (refine hK' _ _ ?_ ?_ <;> clear hK' K') | (refine hK' _ _ ?_; clear hK' K') | (refine hK' _ ?_; clear hK' K') | (refine hKT _ ?_; clear hKT hKF KT KF) | (refine hKF _ ?_; clear hKT hKF KT KF) | (refine Wk.cond ?_; intro KT KF hKT hKF) | (refine Wk.ret ?_) | (refine Wk.draw ?_ ?_ ?_; rotate_left 2; (intro K' hK')) | (refine Wk.step rfl ?_) | (refine Wk.rounds (X := X_refA_Valid) (t := .b 0 :: _) 5 ?_) | (refine Wk.done ?_) | (refine Fin.plain trivial ?_) | ((with_reducible refine top_goal ?_); kernel_rfl) | ((with_reducible refine takes_goal ?_); kernel_rfl) | ((with_reducible refine drop_goal ?_); kernel_rfl) | ((with_reducible refine held_goal ?_); (repeat refine And.intro rfl ?_); exact trivial) | ((with_reducible refine allB_goal ?_); kernel_rfl) | ((with_reducible refine mine_goal ?_); exact mine_of rfl) | ((with_reducible refine withV_goal ?_); refine withV_mk rfl ?_) | ((with_reducible refine hsel_goal ?_); (first | (exact hsel.nil) | (refine hsel.take (HB.like.refl _) (.inr fun _ h => h) ?_) | (refine hsel.take (like_cts ?_) (.inl rfl) ?_) | (refine hsel.skip (spare_own rfl rfl) ?_) | (refine hsel.skip spare_ro ?_))) | (refine And.intro ?_ ?_) | (intro hq; (try simp only [BF.H, Cel.eta, Rul.eta, Grd.eta, if_true, if_false] at hq); (try (exfalso; first | omega | (simp [BF.b] at hq; done)))))
      all_goals (try simp only [Cel.eta, Rul.eta, Grd.eta, if_true, if_false])
      all_goals (first | (with_reducible rfl) | (with_reducible exact trivial) | (with_reducible exact splitN_zero) | ((with_reducible refine fsub_goal ?_); exact trivial) | (with_reducible assumption) | ((with_reducible refine ble_goal ?_); rfl) | ((with_reducible refine ble2_goal ?_); (first | rfl | kernel_rfl)) | ((with_reducible refine beq_goal ?_); rfl) | omega | skip)
      all_goals (first | (simp [Cel.eta, Rul.eta, Grd.eta, den, denL, den_ofConst, BF.b, bfOf, Cel.sv, Rul.sv, Cel.ok]; done) | (simp [Cel.eta, Rul.eta, Grd.eta, den, denL, den_ofConst, BF.b, bfOf, Cel.sv, Rul.sv, Cel.ok]; omega) | (simp [Cel.eta, Rul.eta, Grd.eta, den, denL, den_ofConst, BF.b, bfOf, Cel.sv, Rul.sv, Cel.ok]; (repeat' split) <;> omega) | (simp [Cel.eta, Rul.eta, Grd.eta, den, denL, den_ofConst, BF.b, bfOf, Cel.sv, Rul.sv, Cel.ok]; rw [Bool.eq_iff_iff]; (repeat' split) <;> simp <;> omega) | (simp [Cel.eta, Rul.eta, Grd.eta, den, denL, den_ofConst, BF.b, bfOf, Cel.sv, Rul.sv, Cel.ok, *]; done) | (simp [Cel.eta, Rul.eta, Grd.eta, den, denL, den_ofConst, BF.b, bfOf, Cel.sv, Rul.sv, Cel.ok, *]; omega))
    · exact hK.elim
def G5 : List (Nat × Ctr) := (33, c_refA_Valid) :: G4
theorem okG5 : GsOk Try.prog G5 := GsOk.cons k_refA_Valid okG4
def c_cell_ValidRule : Ctr := fun args _ K => match args with
  | [x0] => r1 x0 fun r => K (.bool (.atom (Rul.ok r)))
  | _ => False
noncomputable def X_cell_ValidRule : Env Try.prog := ⟨Try.f34.ntmps, TT, G5, E0, Try.f34.results.toList, [], TT_ok, okG5, okE0, mixed⟩
theorem k_cell_ValidRule : COk Try.prog 34 c_cell_ValidRule :=
  ctr_of_wk X_cell_ValidRule Try.func34 rfl (by kernel_rfl) rfl rfl fun args hp K hK => by
    unfold c_cell_ValidRule at hK
    split at hK
    · obtain ⟨r, hK1, e0⟩ := iff_r1 hK; clear hK; have hK := hK1; clear hK1
      refine ⟨[Rul.sv r], [], _, denL_cons (e0.symm) (rfl), trivial, fun _ _ b hb => (by cases hb), hK, Nat.le_of_ble_eq_true rfl, ?_⟩
      clear hK
      repeat' (first | (refine Wk.op ?_; intro K' hK') | (refine Wk.xqOp ?_; intro K' hK') | (refine Wk.rgOne ?_; intro K' hK') | (refine Wk.rgPure ?_; intro K' hK') | (refine Wk.rgX ?_; intro K' hK') | (refine Wk.xqNew ?_; intro K' hK') | (refine Wk.xqEnd ?_) | (refine Wk.rgDone ?_) | (refine Wk.rgTwo ?_ ?_ <;> intro K' hK') | (refine Wk.rgH ?_ ?_) | (refine Wk.rsTake ?_; intro K' hK') | (refine Wk.rsOne ?_ (fun K' hK' => ?_)) | (refine Wk.rsTwo ?_ ?_ (fun K' hK' => ?_) (fun K' hK' => ?_)) | (refine Wk.rsDone ?_) | (refine hK' _ _ ?_ ?_ <;> clear hK' K') | (refine hK' _ _ ?_; clear hK' K') | (refine hK' _ ?_; clear hK' K') | (refine hKT _ ?_; clear hKT hKF KT KF) | (refine hKF _ ?_; clear hKT hKF KT KF) | (refine Wk.cond ?_; intro KT KF hKT hKF) | (refine Wk.ret ?_) | (refine Wk.draw ?_ ?_ ?_; rotate_left 2; (intro K' hK')) | (refine Wk.step rfl ?_) | (refine Wk.done ?_) | (refine Fin.plain trivial ?_) | ((with_reducible refine top_goal ?_); kernel_rfl) | ((with_reducible refine takes_goal ?_); kernel_rfl) | ((with_reducible refine drop_goal ?_); kernel_rfl) | ((with_reducible refine held_goal ?_); (repeat refine And.intro rfl ?_); exact trivial) | ((with_reducible refine allB_goal ?_); kernel_rfl) | ((with_reducible refine mine_goal ?_); exact mine_of rfl) | ((with_reducible refine withV_goal ?_); refine withV_mk rfl ?_) | ((with_reducible refine hsel_goal ?_); (first | (exact hsel.nil) | (refine hsel.take (HB.like.refl _) (.inr fun _ h => h) ?_) | (refine hsel.take (like_cts ?_) (.inl rfl) ?_) | (refine hsel.skip (spare_own rfl rfl) ?_) | (refine hsel.skip spare_ro ?_))) | (refine And.intro ?_ ?_) | (intro hq; (try simp only [BF.H, Cel.eta, Rul.eta, Grd.eta, if_true, if_false] at hq); (try (exfalso; first | omega | (simp [BF.b] at hq; done)))))
      all_goals (try simp only [Cel.eta, Rul.eta, Grd.eta, if_true, if_false])
      all_goals (first | (with_reducible rfl) | (with_reducible exact trivial) | (with_reducible exact splitN_zero) | ((with_reducible refine fsub_goal ?_); exact trivial) | (with_reducible assumption) | ((with_reducible refine ble_goal ?_); rfl) | ((with_reducible refine ble2_goal ?_); (first | rfl | kernel_rfl)) | ((with_reducible refine beq_goal ?_); rfl) | omega | skip)
      all_goals (first | (simp [Cel.eta, Rul.eta, Grd.eta, den, denL, den_ofConst, BF.b, bfOf, Cel.sv, Rul.sv, Rul.ok]; done) | (simp [Cel.eta, Rul.eta, Grd.eta, den, denL, den_ofConst, BF.b, bfOf, Cel.sv, Rul.sv, Rul.ok]; omega) | (simp [Cel.eta, Rul.eta, Grd.eta, den, denL, den_ofConst, BF.b, bfOf, Cel.sv, Rul.sv, Rul.ok]; (repeat' split) <;> omega) | (simp [Cel.eta, Rul.eta, Grd.eta, den, denL, den_ofConst, BF.b, bfOf, Cel.sv, Rul.sv, Rul.ok]; rw [Bool.eq_iff_iff]; (repeat' split) <;> simp <;> omega) | (simp [Cel.eta, Rul.eta, Grd.eta, den, denL, den_ofConst, BF.b, bfOf, Cel.sv, Rul.sv, Rul.ok, *]; done) | (simp [Cel.eta, Rul.eta, Grd.eta, den, denL, den_ofConst, BF.b, bfOf, Cel.sv, Rul.sv, Rul.ok, *]; omega))
    · exact hK.elim
def G6 : List (Nat × Ctr) := (34, c_cell_ValidRule) :: G5
theorem okG6 : GsOk Try.prog G6 := GsOk.cons k_cell_ValidRule okG5
def c_refA_ValidRule : Ctr := fun args _ K => match args with
  | [x0] => r1 x0 fun r => K (.bool (.atom (Rul.ok r)))
  | _ => False
noncomputable def X_refA_ValidRule : Env Try.prog := ⟨Try.f35.ntmps, TT, G6, E0, Try.f35.results.toList, [], TT_ok, okG6, okE0, mixed⟩
theorem k_refA_ValidRule : COk Try.prog 35 c_refA_ValidRule :=
  ctr_of_wk X_refA_ValidRule Try.func35 rfl (by kernel_rfl) rfl rfl fun args hp K hK => by
    unfold c_refA_ValidRule at hK
    split at hK
    · obtain ⟨r, hK1, e0⟩ := iff_r1 hK; clear hK; have hK := hK1; clear hK1
      refine ⟨[Rul.sv r], [], _, denL_cons (e0.symm) (rfl), trivial, fun _ _ b hb => (by cases hb), hK, Nat.le_of_ble_eq_true rfl, ?_⟩
      clear hK
      repeat' (first | (refine Wk.op ?_; intro K' hK') | (refine Wk.xqOp ?_; intro K' hK') | (refine Wk.rgOne ?_; intro K' hK') | (refine Wk.rgPure ?_; intro K' hK') | (refine Wk.rgX ?_; intro K' hK') | (refine Wk.xqNew ?_; intro K' hK') | (refine Wk.xqEnd ?_) | (refine Wk.rgDone ?_) | (refine Wk.rgTwo ?_ ?_ <;> intro K' hK') | (refine Wk.rgH ?_ ?_) | (refine Wk.rsTake ?_; intro K' hK') | (refine Wk.rsOne ?_ (fun K' hK' => ?_)) | (refine Wk.rsTwo ?_ ?_ (fun K' hK' => ?_) (fun K' hK' => ?_)) | (refine Wk.rsDone ?_) | (refine hK' _ _ ?_ ?_ <;> clear hK' K') | (refine hK' _ _ ?_; clear hK' K') | (refine hK' _ ?_; clear hK' K') | (refine hKT _ ?_; clear hKT hKF KT KF) | (refine hKF _ ?_; clear hKT hKF KT KF) | (refine Wk.cond ?_; intro KT KF hKT hKF) | (refine Wk.ret ?_) | (refine Wk.draw ?_ ?_ ?_; rotate_left 2; (intro K' hK')) | (refine Wk.step rfl ?_) | (refine Wk.done ?_) | (refine Fin.plain trivial ?_) | ((with_reducible refine top_goal ?_); kernel_rfl) | ((with_reducible refine takes_goal ?_); kernel_rfl) | ((with_reducible refine drop_goal ?_); kernel_rfl) | ((with_reducible refine held_goal ?_); (repeat refine And.intro rfl ?_); exact trivial) | ((with_reducible refine allB_goal ?_); kernel_rfl) | ((with_reducible refine mine_goal ?_); exact mine_of rfl) | ((with_reducible refine withV_goal ?_); refine withV_mk rfl ?_) | ((with_reducible refine hsel_goal ?_); (first | (exact hsel.nil) | (refine hsel.take (HB.like.refl _) (.inr fun _ h => h) ?_) | (refine hsel.take (like_cts ?_) (.inl rfl) ?_) | (refine hsel.skip (spare_own rfl rfl) ?_) | (refine hsel.skip spare_ro ?_))) | (refine And.intro ?_ ?_) | (intro hq; (try simp only [BF.H, Cel.eta, Rul.eta, Grd.eta, if_true, if_false] at hq); (try (exfalso; first | omega | (simp [BF.b] at hq; done)))))
      all_goals (try simp only [Cel.eta, Rul.eta, Grd.eta, if_true, if_false])
      all_goals (first | (with_reducible rfl) | (with_reducible exact trivial) | (with_reducible exact splitN_zero) | ((with_reducible refine fsub_goal ?_); exact trivial) | (with_reducible assumption) | ((with_reducible refine ble_goal ?_); rfl) | ((with_reducible refine ble2_goal ?_); (first | rfl | kernel_rfl)) | ((with_reducible refine beq_goal ?_); rfl) | omega | skip)
      all_goals (first | (simp [Cel.eta, Rul.eta, Grd.eta, den, denL, den_ofConst, BF.b, bfOf, Cel.sv, Rul.sv, Rul.ok]; done) | (simp [Cel.eta, Rul.eta, Grd.eta, den, denL, den_ofConst, BF.b, bfOf, Cel.sv, Rul.sv, Rul.ok]; omega) | (simp [Cel.eta, Rul.eta, Grd.eta, den, denL, den_ofConst, BF.b, bfOf, Cel.sv, Rul.sv, Rul.ok]; (repeat' split) <;> omega) | (simp [Cel.eta, Rul.eta, Grd.eta, den, denL, den_ofConst, BF.b, bfOf, Cel.sv, Rul.sv, Rul.ok]; rw [Bool.eq_iff_iff]; (repeat' split) <;> simp <;> omega) | (simp [Cel.eta, Rul.eta, Grd.eta, den, denL, den_ofConst, BF.b, bfOf, Cel.sv, Rul.sv, Rul.ok, *]; done) | (simp [Cel.eta, Rul.eta, Grd.eta, den, denL, den_ofConst, BF.b, bfOf, Cel.sv, Rul.sv, Rul.ok, *]; omega))
    · exact hK.elim
def G7 : List (Nat × Ctr) := (35, c_refA_ValidRule) :: G6
theorem okG7 : GsOk Try.prog G7 := GsOk.cons k_refA_ValidRule okG6
def c_cell_pairs : Ctr := fun args _ K => match args with
  | [x0] => c1 x0 fun c => K (.tup [.int .i64 c.h, .int .i64 c.v])
  | _ => False
noncomputable def X_cell_pairs : Env Try.prog := ⟨Try.f84.ntmps, TT, G7, E0, Try.f84.results.toList, [(1, .x [0, 1, 2, 3, 4, 5, 6, 7, 8, 9, 10, 11] [] (.done))], TT_ok, okG7, okE0, mixed⟩
theorem k_cell_pairs : COk Try.prog 84 c_cell_pairs :=
  ctr_of_wk X_cell_pairs Try.func84 rfl (by kernel_rfl) rfl rfl fun args hp K hK => by
    unfold c_cell_pairs at hK
    split at hK
    · obtain ⟨c, hK1, e0⟩ := iff_c1 hK; clear hK; have hK := hK1; clear hK1
      refine ⟨[Cel.sv c], [], _, denL_cons (e0.symm) (rfl), trivial, fun _ _ b hb => (by cases hb), hK, Nat.le_of_ble_eq_true rfl, ?_⟩
      clear hK
      repeat' (first | (refine Wk.op ?_; intro K' hK') | (refine Wk.xqOp ?_; intro K' hK') | (refine Wk.rgOne ?_; intro K' hK') | (refine Wk.rgPure ?_; intro K' hK') | (refine Wk.rgX ?_; intro K' hK') | (refine Wk.xqNew ?_; intro K' hK') | (refine Wk.xqEnd ?_) | (refine Wk.rgDone ?_) | (refine Wk.rgTwo ?_ ?_ <;> intro K' hK') | (refine Wk.rgH ?_ ?_) | (refine Wk.rsTake ?_; intro K' hK') | (refine Wk.rsOne ?_ (fun K' hK' => ?_)) | (refine Wk.rsTwo ?_ ?_ (fun K' hK' => ?_) (fun K' hK' => ?_)) | (refine Wk.rsDone ?_) | (refine hK' _ _ ?_ ?_ <;> clear hK' K') | (refine hK' _ _ ?_; clear hK' K') | (refine hK' _ ?_; clear hK' K') | (refine hKT _ ?_; clear hKT hKF KT KF) | (refine hKF _ ?_; clear hKT hKF KT KF) | (refine Wk.cond ?_; intro KT KF hKT hKF) | (refine Wk.ret ?_) | (refine Wk.draw ?_ ?_ ?_; rotate_left 2; (intro K' hK')) | (refine Wk.step rfl ?_) | (refine Wk.done ?_) | (refine Fin.plain trivial ?_) | ((with_reducible refine top_goal ?_); kernel_rfl) | ((with_reducible refine takes_goal ?_); kernel_rfl) | ((with_reducible refine drop_goal ?_); kernel_rfl) | ((with_reducible refine held_goal ?_); (repeat refine And.intro rfl ?_); exact trivial) | ((with_reducible refine allB_goal ?_); kernel_rfl) | ((with_reducible refine mine_goal ?_); exact mine_of rfl) | ((with_reducible refine withV_goal ?_); refine withV_mk rfl ?_) | ((with_reducible refine hsel_goal ?_); (first | (exact hsel.nil) | (refine hsel.take (HB.like.refl _) (.inr fun _ h => h) ?_) | (refine hsel.take (like_cts ?_) (.inl rfl) ?_) | (refine hsel.skip (spare_own rfl rfl) ?_) | (refine hsel.skip spare_ro ?_))) | (refine And.intro ?_ ?_) | (intro hq; (try simp only [BF.H, Cel.eta, Rul.eta, Grd.eta, if_true, if_false] at hq); (try (exfalso; first | omega | (simp [BF.b] at hq; done)))))
      all_goals (try simp only [Cel.eta, Rul.eta, Grd.eta, if_true, if_false])
      all_goals (first | (with_reducible rfl) | (with_reducible exact trivial) | (with_reducible exact splitN_zero) | ((with_reducible refine fsub_goal ?_); exact trivial) | (with_reducible assumption) | ((with_reducible refine ble_goal ?_); rfl) | ((with_reducible refine ble2_goal ?_); (first | rfl | kernel_rfl)) | ((with_reducible refine beq_goal ?_); rfl) | omega | skip)
      all_goals (first | (simp [Cel.eta, Rul.eta, Grd.eta, den, denL, den_ofConst, BF.b, bfOf, Cel.sv, Rul.sv, Cel.h, Cel.v]; done) | (simp [Cel.eta, Rul.eta, Grd.eta, den, denL, den_ofConst, BF.b, bfOf, Cel.sv, Rul.sv, Cel.h, Cel.v]; omega) | (simp [Cel.eta, Rul.eta, Grd.eta, den, denL, den_ofConst, BF.b, bfOf, Cel.sv, Rul.sv, Cel.h, Cel.v]; (repeat' split) <;> omega) | (simp [Cel.eta, Rul.eta, Grd.eta, den, denL, den_ofConst, BF.b, bfOf, Cel.sv, Rul.sv, Cel.h, Cel.v]; rw [Bool.eq_iff_iff]; (repeat' split) <;> simp <;> omega) | (simp [Cel.eta, Rul.eta, Grd.eta, den, denL, den_ofConst, BF.b, bfOf, Cel.sv, Rul.sv, Cel.h, Cel.v, *]; done) | (simp [Cel.eta, Rul.eta, Grd.eta, den, denL, den_ofConst, BF.b, bfOf, Cel.sv, Rul.sv, Cel.h, Cel.v, *]; omega))
    · exact hK.elim
def G8 : List (Nat × Ctr) := (84, c_cell_pairs) :: G7
theorem okG8 : GsOk Try.prog G8 := GsOk.cons k_cell_pairs okG7
def c_cell_placed : Ctr := fun args _ K => match args with
  | [x0, x1] => c1 x0 fun c => i1 x1 fun p => (c.ok = true ∧ 0 ≤ p ∧ p ≤ c.h + c.v) ∧ K (Cel.sv (c.placed p))
  | _ => False
noncomputable def X_cell_placed : Env Try.prog := ⟨Try.f82.ntmps, TT, G8, E0, Try.f82.results.toList, [], TT_ok, okG8, okE0, mixed⟩
theorem k_cell_placed : COk Try.prog 82 c_cell_placed :=
  ctr_of_wk X_cell_placed Try.func82 rfl (by kernel_rfl) rfl rfl fun args hp K hK => by
    unfold c_cell_placed at hK
    split at hK
    · obtain ⟨c, hK1, e0⟩ := iff_c1 hK; clear hK; have hK := hK1; clear hK1
      obtain ⟨p, hK1, e1⟩ := iff_i1 hK; clear hK; have hK := hK1; clear hK1
      obtain ⟨hpre, hK⟩ := hK
      have hf := Cel.facts hpre.1
      refine ⟨[Cel.sv c, .int .i64 p], [], _, denL_cons (e0.symm) (denL_cons (e1.symm) (rfl)), trivial, fun _ _ b hb => (by cases hb), hK, Nat.le_of_ble_eq_true rfl, ?_⟩
      clear hK
      repeat' (first | (refine Wk.op ?_; intro K' hK') | (refine Wk.xqOp ?_; intro K' hK') | (refine Wk.rgOne ?_; intro K' hK') | (refine Wk.rgPure ?_; intro K' hK') | (refine Wk.rgX ?_; intro K' hK') | (refine Wk.xqNew ?_; intro K' hK') | (refine Wk.xqEnd ?_) | (refine Wk.rgDone ?_) | (refine Wk.rgTwo ?_ ?_ <;> intro K' hK') | (refine Wk.rgH ?_ ?_) | (refine Wk.rsTake ?_; intro K' hK') | (refine Wk.rsOne ?_ (fun K' hK' => ?_)) | (refine Wk.rsTwo ?_ ?_ (fun K' hK' => ?_) (fun K' hK' => ?_)) | (refine Wk.rsDone ?_) | (refine hK' _ _ ?_ ?_ <;> clear hK' K') | (refine hK' _ _ ?_; clear hK' K') | (refine hK' _ ?_; clear hK' K') | (refine hKT _ ?_; clear hKT hKF KT KF) | (refine hKF _ ?_; clear hKT hKF KT KF) | (refine Wk.cond ?_; intro KT KF hKT hKF) | (refine Wk.ret ?_) | (refine Wk.draw ?_ ?_ ?_; rotate_left 2; (intro K' hK')) | (refine Wk.step rfl ?_) | (refine Wk.done ?_) | (refine Fin.plain trivial ?_) | ((with_reducible refine top_goal ?_); kernel_rfl) | ((with_reducible refine takes_goal ?_); kernel_rfl) | ((with_reducible refine drop_goal ?_); kernel_rfl) | ((with_reducible refine held_goal ?_); (repeat refine And.intro rfl ?_); exact trivial) | ((with_reducible refine allB_goal ?_); kernel_rfl) | ((with_reducible refine mine_goal ?_); exact mine_of rfl) | ((with_reducible refine withV_goal ?_); refine withV_mk rfl ?_) | ((with_reducible refine hsel_goal ?_); (first | (exact hsel.nil) | (refine hsel.take (HB.like.refl _) (.inr fun _ h => h) ?_) | (refine hsel.take (like_cts ?_) (.inl rfl) ?_) | (refine hsel.skip (spare_own rfl rfl) ?_) | (refine hsel.skip spare_ro ?_))) | (refine And.intro ?_ ?_) | (intro hq; (try simp only [BF.H, Cel.eta, Rul.eta, Grd.eta, if_true, if_false] at hq); (try (exfalso; first | omega | (simp [BF.b] at hq; done)))))
      all_goals (try simp only [Cel.eta, Rul.eta, Grd.eta, if_true, if_false])
      all_goals (first | (with_reducible rfl) | (with_reducible exact trivial) | (with_reducible exact splitN_zero) | ((with_reducible refine fsub_goal ?_); exact trivial) | (with_reducible assumption) | ((with_reducible refine ble_goal ?_); rfl) | ((with_reducible refine ble2_goal ?_); (first | rfl | kernel_rfl)) | ((with_reducible refine beq_goal ?_); rfl) | omega | skip)
      all_goals (first | (simp [Cel.eta, Rul.eta, Grd.eta, den, denL, den_ofConst, BF.b, bfOf, Cel.sv, Rul.sv, Cel.placed]; done) | (simp [Cel.eta, Rul.eta, Grd.eta, den, denL, den_ofConst, BF.b, bfOf, Cel.sv, Rul.sv, Cel.placed]; omega) | (simp [Cel.eta, Rul.eta, Grd.eta, den, denL, den_ofConst, BF.b, bfOf, Cel.sv, Rul.sv, Cel.placed]; (repeat' split) <;> omega) | (simp [Cel.eta, Rul.eta, Grd.eta, den, denL, den_ofConst, BF.b, bfOf, Cel.sv, Rul.sv, Cel.placed]; rw [Bool.eq_iff_iff]; (repeat' split) <;> simp <;> omega) | (simp [Cel.eta, Rul.eta, Grd.eta, den, denL, den_ofConst, BF.b, bfOf, Cel.sv, Rul.sv, Cel.placed, *]; done) | (simp [Cel.eta, Rul.eta, Grd.eta, den, denL, den_ofConst, BF.b, bfOf, Cel.sv, Rul.sv, Cel.placed, *]; omega))
    · exact hK.elim
def G9 : List (Nat × Ctr) := (82, c_cell_placed) :: G8
theorem okG9 : GsOk Try.prog G9 := GsOk.cons k_cell_placed okG8
def c_cell_turned_1 : Ctr := fun args _ K => match args with
  | [x0, x1] => i1 x0 fun h => i1 x1 fun a => K (.int .i64 h)
  | _ => False
noncomputable def X_cell_turned_1 : Env Try.prog := ⟨Try.f147.ntmps, TT, G9, E0, Try.f147.results.toList, [], TT_ok, okG9, okE0, mixed⟩
theorem k_cell_turned_1 : COk Try.prog 147 c_cell_turned_1 :=
  ctr_of_wk X_cell_turned_1 Try.func147 rfl (by kernel_rfl) rfl rfl fun args hp K hK => by
    unfold c_cell_turned_1 at hK
    split at hK
    · obtain ⟨h, hK1, e0⟩ := iff_i1 hK; clear hK; have hK := hK1; clear hK1
      obtain ⟨a, hK1, e1⟩ := iff_i1 hK; clear hK; have hK := hK1; clear hK1
      refine ⟨[.int .i64 h, .int .i64 a], [], _, denL_cons (e0.symm) (denL_cons (e1.symm) (rfl)), trivial, fun _ _ b hb => (by cases hb), hK, Nat.le_of_ble_eq_true rfl, ?_⟩
      clear hK
      repeat' (first | (refine Wk.op ?_; intro K' hK') | (refine Wk.xqOp ?_; intro K' hK') | (refine Wk.rgOne ?_; intro K' hK') | (refine Wk.rgPure ?_; intro K' hK') | (refine Wk.rgX ?_; intro K' hK') | (refine Wk.xqNew ?_; intro K' hK') | (refine Wk.xqEnd ?_) | (refine Wk.rgDone ?_) | (refine Wk.rgTwo ?_ ?_ <;> intro K' hK') | (refine Wk.rgH ?_ ?_) | (refine Wk.rsTake ?_; intro K' hK') | (refine Wk.rsOne ?_ (fun K' hK' => ?_)) | (refine Wk.rsTwo ?_ ?_ (fun K' hK' => ?_) (fun K' hK' => ?_)) | (refine Wk.rsDone ?_) | (refine hK' _ _ ?_ ?_ <;> clear hK' K') | (refine hK' _ _ ?_; clear hK' K') | (refine hK' _ ?_; clear hK' K') | (refine hKT _ ?_; clear hKT hKF KT KF) | (refine hKF _ ?_; clear hKT hKF KT KF) | (refine Wk.cond ?_; intro KT KF hKT hKF) | (refine Wk.ret ?_) | (refine Wk.draw ?_ ?_ ?_; rotate_left 2; (intro K' hK')) | (refine Wk.step rfl ?_) | (refine Wk.done ?_) | (refine Fin.plain trivial ?_) | ((with_reducible refine top_goal ?_); kernel_rfl) | ((with_reducible refine takes_goal ?_); kernel_rfl) | ((with_reducible refine drop_goal ?_); kernel_rfl) | ((with_reducible refine held_goal ?_); (repeat refine And.intro rfl ?_); exact trivial) | ((with_reducible refine allB_goal ?_); kernel_rfl) | ((with_reducible refine mine_goal ?_); exact mine_of rfl) | ((with_reducible refine withV_goal ?_); refine withV_mk rfl ?_) | ((with_reducible refine hsel_goal ?_); (first | (exact hsel.nil) | (refine hsel.take (HB.like.refl _) (.inr fun _ h => h) ?_) | (refine hsel.take (like_cts ?_) (.inl rfl) ?_) | (refine hsel.skip (spare_own rfl rfl) ?_) | (refine hsel.skip spare_ro ?_))) | (refine And.intro ?_ ?_) | (intro hq; (try simp only [BF.H, Cel.eta, Rul.eta, Grd.eta, if_true, if_false] at hq); (try (exfalso; first | omega | (simp [BF.b] at hq; done)))))
      all_goals (try simp only [Cel.eta, Rul.eta, Grd.eta, if_true, if_false])
      all_goals (first | (with_reducible rfl) | (with_reducible exact trivial) | (with_reducible exact splitN_zero) | ((with_reducible refine fsub_goal ?_); exact trivial) | (with_reducible assumption) | ((with_reducible refine ble_goal ?_); rfl) | ((with_reducible refine ble2_goal ?_); (first | rfl | kernel_rfl)) | ((with_reducible refine beq_goal ?_); rfl) | omega | skip)
      all_goals (first | (simp [Cel.eta, Rul.eta, Grd.eta, den, denL, den_ofConst, BF.b, bfOf, Cel.sv, Rul.sv]; done) | (simp [Cel.eta, Rul.eta, Grd.eta, den, denL, den_ofConst, BF.b, bfOf, Cel.sv, Rul.sv]; omega) | (simp [Cel.eta, Rul.eta, Grd.eta, den, denL, den_ofConst, BF.b, bfOf, Cel.sv, Rul.sv]; (repeat' split) <;> omega) | (simp [Cel.eta, Rul.eta, Grd.eta, den, denL, den_ofConst, BF.b, bfOf, Cel.sv, Rul.sv]; rw [Bool.eq_iff_iff]; (repeat' split) <;> simp <;> omega) | (simp [Cel.eta, Rul.eta, Grd.eta, den, denL, den_ofConst, BF.b, bfOf, Cel.sv, Rul.sv, *]; done) | (simp [Cel.eta, Rul.eta, Grd.eta, den, denL, den_ofConst, BF.b, bfOf, Cel.sv, Rul.sv, *]; omega))
    · exact hK.elim
def G10 : List (Nat × Ctr) := (147, c_cell_turned_1) :: G9
theorem okG10 : GsOk Try.prog G10 := GsOk.cons k_cell_turned_1 okG9
def c_cell_turned_2 : Ctr := fun args _ K => match args with
  | [x0, x1] => i1 x0 fun h => i1 x1 fun a => (0 ≤ h ∧ h ≤ a ∧ a ≤ 1000000000) ∧ K (.int .i64 (a - h))
  | _ => False
noncomputable def X_cell_turned_2 : Env Try.prog := ⟨Try.f148.ntmps, TT, G10, E0, Try.f148.results.toList, [], TT_ok, okG10, okE0, mixed⟩
theorem k_cell_turned_2 : COk Try.prog 148 c_cell_turned_2 :=
  ctr_of_wk X_cell_turned_2 Try.func148 rfl (by kernel_rfl) rfl rfl fun args hp K hK => by
    unfold c_cell_turned_2 at hK
    split at hK
    · obtain ⟨h, hK1, e0⟩ := iff_i1 hK; clear hK; have hK := hK1; clear hK1
      obtain ⟨a, hK1, e1⟩ := iff_i1 hK; clear hK; have hK := hK1; clear hK1
      obtain ⟨hpre, hK⟩ := hK
      refine ⟨[.int .i64 h, .int .i64 a], [], _, denL_cons (e0.symm) (denL_cons (e1.symm) (rfl)), trivial, fun _ _ b hb => (by cases hb), hK, Nat.le_of_ble_eq_true rfl, ?_⟩
      clear hK
      repeat' (first | (refine Wk.op ?_; intro K' hK') | (refine Wk.xqOp ?_; intro K' hK') | (refine Wk.rgOne ?_; intro K' hK') | (refine Wk.rgPure ?_; intro K' hK') | (refine Wk.rgX ?_; intro K' hK') | (refine Wk.xqNew ?_; intro K' hK') | (refine Wk.xqEnd ?_) | (refine Wk.rgDone ?_) | (refine Wk.rgTwo ?_ ?_ <;> intro K' hK') | (refine Wk.rgH ?_ ?_) | (refine Wk.rsTake ?_; intro K' hK') | (refine Wk.rsOne ?_ (fun K' hK' => ?_)) | (refine Wk.rsTwo ?_ ?_ (fun K' hK' => ?_) (fun K' hK' => ?_)) | (refine Wk.rsDone ?_) | (refine hK' _ _ ?_ ?_ <;> clear hK' K') | (refine hK' _ _ ?_; clear hK' K') | (refine hK' _ ?_; clear hK' K') | (refine hKT _ ?_; clear hKT hKF KT KF) | (refine hKF _ ?_; clear hKT hKF KT KF) | (refine Wk.cond ?_; intro KT KF hKT hKF) | (refine Wk.ret ?_) | (refine Wk.draw ?_ ?_ ?_; rotate_left 2; (intro K' hK')) | (refine Wk.step rfl ?_) | (refine Wk.done ?_) | (refine Fin.plain trivial ?_) | ((with_reducible refine top_goal ?_); kernel_rfl) | ((with_reducible refine takes_goal ?_); kernel_rfl) | ((with_reducible refine drop_goal ?_); kernel_rfl) | ((with_reducible refine held_goal ?_); (repeat refine And.intro rfl ?_); exact trivial) | ((with_reducible refine allB_goal ?_); kernel_rfl) | ((with_reducible refine mine_goal ?_); exact mine_of rfl) | ((with_reducible refine withV_goal ?_); refine withV_mk rfl ?_) | ((with_reducible refine hsel_goal ?_); (first | (exact hsel.nil) | (refine hsel.take (HB.like.refl _) (.inr fun _ h => h) ?_) | (refine hsel.take (like_cts ?_) (.inl rfl) ?_) | (refine hsel.skip (spare_own rfl rfl) ?_) | (refine hsel.skip spare_ro ?_))) | (refine And.intro ?_ ?_) | (intro hq; (try simp only [BF.H, Cel.eta, Rul.eta, Grd.eta, if_true, if_false] at hq); (try (exfalso; first | omega | (simp [BF.b] at hq; done)))))
      all_goals (try simp only [Cel.eta, Rul.eta, Grd.eta, if_true, if_false])
      all_goals (first | (with_reducible rfl) | (with_reducible exact trivial) | (with_reducible exact splitN_zero) | ((with_reducible refine fsub_goal ?_); exact trivial) | (with_reducible assumption) | ((with_reducible refine ble_goal ?_); rfl) | ((with_reducible refine ble2_goal ?_); (first | rfl | kernel_rfl)) | ((with_reducible refine beq_goal ?_); rfl) | omega | skip)
      all_goals (first | (simp [Cel.eta, Rul.eta, Grd.eta, den, denL, den_ofConst, BF.b, bfOf, Cel.sv, Rul.sv]; done) | (simp [Cel.eta, Rul.eta, Grd.eta, den, denL, den_ofConst, BF.b, bfOf, Cel.sv, Rul.sv]; omega) | (simp [Cel.eta, Rul.eta, Grd.eta, den, denL, den_ofConst, BF.b, bfOf, Cel.sv, Rul.sv]; (repeat' split) <;> omega) | (simp [Cel.eta, Rul.eta, Grd.eta, den, denL, den_ofConst, BF.b, bfOf, Cel.sv, Rul.sv]; rw [Bool.eq_iff_iff]; (repeat' split) <;> simp <;> omega) | (simp [Cel.eta, Rul.eta, Grd.eta, den, denL, den_ofConst, BF.b, bfOf, Cel.sv, Rul.sv, *]; done) | (simp [Cel.eta, Rul.eta, Grd.eta, den, denL, den_ofConst, BF.b, bfOf, Cel.sv, Rul.sv, *]; omega))
    · exact hK.elim
def G11 : List (Nat × Ctr) := (148, c_cell_turned_2) :: G10
theorem okG11 : GsOk Try.prog G11 := GsOk.cons k_cell_turned_2 okG10
def c_cell_turned_3 : Ctr := fun args hp K => match args with
  | [x0, x1, x2] => i1 x0 fun h => i1 x1 fun a => p2 x2 hp fun r => (0 ≤ h ∧ h ≤ a ∧ a ≤ 1000000000 ∧ -1000000000 ≤ r.b ∧ r.b ≤ 1000000000) ∧ K (.int .i64 ((h + r.b) % (a + 1)))
  | _ => False
noncomputable def X_cell_turned_3 : Env Try.prog := ⟨Try.f149.ntmps, TT, G11, E0, Try.f149.results.toList, [], TT_ok, okG11, okE0, mixed⟩
theorem k_cell_turned_3 : COk Try.prog 149 c_cell_turned_3 :=
  ctr_of_wk X_cell_turned_3 Try.func149 rfl (by kernel_rfl) rfl rfl fun args hp K hK => by
    unfold c_cell_turned_3 at hK
    split at hK
    · obtain ⟨h, hK1, e0⟩ := iff_i1 hK; clear hK; have hK := hK1; clear hK1
      obtain ⟨a, hK1, e1⟩ := iff_i1 hK; clear hK; have hK := hK1; clear hK1
      obtain ⟨r, nmr, hK1, e2, vwr⟩ := iff_p2 hK; clear hK; have hK := hK1; clear hK1
      obtain ⟨hpre, hK⟩ := hK
      have ht := adj_tmod (a := h + r.b) (b := a + 1) (by omega)
      have h1 := Int.emod_nonneg (h + r.b) (show a + 1 ≠ 0 by omega)
      have h2 := Int.emod_lt_of_pos (h + r.b) (show 0 < a + 1 by omega)
      have h3 : (h + r.b).tmod (a + 1) = (h + r.b) % (a + 1) ∨ (h + r.b).tmod (a + 1) + (a + 1) = (h + r.b) % (a + 1) ∧ (h + r.b).tmod (a + 1) < 0 := by split at ht <;> omega
      refine ⟨[.int .i64 h, .int .i64 a, .ptr 0 nmr 0 0 0], [⟨some nmr, false, .ro, .l [.int .i64 r.k, .int .i64 r.b]⟩], _, denL_cons (e0.symm) (denL_cons (e1.symm) (denL_cons (e2) (rfl))), ⟨trivial, trivial⟩, fun w hw b hb => (by rw [List.mem_singleton] at hb; subst hb; exact vwr w hw), hK, Nat.le_of_ble_eq_true rfl, ?_⟩
      clear hK
      repeat' (first | (refine Wk.op ?_; intro K' hK') | (refine Wk.xqOp ?_; intro K' hK') | (refine Wk.rgOne ?_; intro K' hK') | (refine Wk.rgPure ?_; intro K' hK') | (refine Wk.rgX ?_; intro K' hK') | (refine Wk.xqNew ?_; intro K' hK') | (refine Wk.xqEnd ?_) | (refine Wk.rgDone ?_) | (refine Wk.rgTwo ?_ ?_ <;> intro K' hK') | (refine Wk.rgH ?_ ?_) | (refine Wk.rsTake ?_; intro K' hK') | (refine Wk.rsOne ?_ (fun K' hK' => ?_)) | (refine Wk.rsTwo ?_ ?_ (fun K' hK' => ?_) (fun K' hK' => ?_)) | (refine Wk.rsDone ?_) | (refine hK' _ _ ?_ ?_ <;> clear hK' K') | (refine hK' _ _ ?_; clear hK' K') | (refine hK' _ ?_; clear hK' K') | (refine hKT _ ?_; clear hKT hKF KT KF) | (refine hKF _ ?_; clear hKT hKF KT KF) | (refine Wk.cond ?_; intro KT KF hKT hKF) | (refine Wk.ret ?_) | (refine Wk.draw ?_ ?_ ?_; rotate_left 2; (intro K' hK')) | (refine Wk.step rfl ?_) | (refine Wk.done ?_) | (refine Fin.plain trivial ?_) | ((with_reducible refine top_goal ?_); kernel_rfl) | ((with_reducible refine takes_goal ?_); kernel_rfl) | ((with_reducible refine drop_goal ?_); kernel_rfl) | ((with_reducible refine held_goal ?_); (repeat refine And.intro rfl ?_); exact trivial) | ((with_reducible refine allB_goal ?_); kernel_rfl) | ((with_reducible refine mine_goal ?_); exact mine_of rfl) | ((with_reducible refine withV_goal ?_); refine withV_mk rfl ?_) | ((with_reducible refine hsel_goal ?_); (first | (exact hsel.nil) | (refine hsel.take (HB.like.refl _) (.inr fun _ h => h) ?_) | (refine hsel.take (like_cts ?_) (.inl rfl) ?_) | (refine hsel.skip (spare_own rfl rfl) ?_) | (refine hsel.skip spare_ro ?_))) | (refine And.intro ?_ ?_) | (intro hq; (try simp only [BF.H, Cel.eta, Rul.eta, Grd.eta, if_true, if_false] at hq); (try (exfalso; first | omega | (simp [BF.b] at hq; done)))))
      all_goals (try simp only [Cel.eta, Rul.eta, Grd.eta, if_true, if_false])
      all_goals (first | (with_reducible rfl) | (with_reducible exact trivial) | (with_reducible exact splitN_zero) | ((with_reducible refine fsub_goal ?_); exact trivial) | (with_reducible assumption) | ((with_reducible refine ble_goal ?_); rfl) | ((with_reducible refine ble2_goal ?_); (first | rfl | kernel_rfl)) | ((with_reducible refine beq_goal ?_); rfl) | omega | skip)
      all_goals (simp [den, denL]; split at ht <;> omega)
    · exact hK.elim
def G12 : List (Nat × Ctr) := (149, c_cell_turned_3) :: G11
theorem okG12 : GsOk Try.prog G12 := GsOk.cons k_cell_turned_3 okG11
def c_cell_turned : Ctr := fun args _ K => match args with
  | [x0, x1, x2] => r1 x0 fun r => i1 x1 fun h => i1 x2 fun a => (r.ok = true ∧ 0 ≤ h ∧ h ≤ a ∧ a ≤ 1000000000) ∧ K (.int .i64 (r.turn h a))
  | _ => False
noncomputable def X_cell_turned : Env Try.prog := ⟨Try.f123.ntmps, TT, G12, E0, Try.f123.results.toList, [], TT_ok, okG12, okE0, mixed⟩
theorem k_cell_turned : COk Try.prog 123 c_cell_turned :=
  ctr_of_wk X_cell_turned Try.func123 rfl (by kernel_rfl) rfl rfl fun args hp K hK => by
    unfold c_cell_turned at hK
    split at hK
    · obtain ⟨r, hK1, e0⟩ := iff_r1 hK; clear hK; have hK := hK1; clear hK1
      obtain ⟨h, hK1, e1⟩ := iff_i1 hK; clear hK; have hK := hK1; clear hK1
      obtain ⟨a, hK1, e2⟩ := iff_i1 hK; clear hK; have hK := hK1; clear hK1
      obtain ⟨hpre, hK⟩ := hK
      have hr := Rul.ok_iff.1 hpre.1
      refine ⟨[Rul.sv r, .int .i64 h, .int .i64 a], [], _, denL_cons (e0.symm) (denL_cons (e1.symm) (denL_cons (e2.symm) (rfl))), trivial, fun _ _ b hb => (by cases hb), hK, Nat.le_of_ble_eq_true rfl, ?_⟩
      clear hK
      repeat' (first | (refine Wk.op ?_; intro K' hK') | (refine Wk.xqOp ?_; intro K' hK') | (refine Wk.rgOne ?_; intro K' hK') | (refine Wk.rgPure ?_; intro K' hK') | (refine Wk.rgX ?_; intro K' hK') | (refine Wk.xqNew ?_; intro K' hK') | (refine Wk.xqEnd ?_) | (refine Wk.rgDone ?_) | (refine Wk.rgTwo ?_ ?_ <;> intro K' hK') | (refine Wk.rgH ?_ ?_) | (refine Wk.rsTake ?_; intro K' hK') | (refine Wk.rsOne ?_ (fun K' hK' => ?_)) | (refine Wk.rsTwo ?_ ?_ (fun K' hK' => ?_) (fun K' hK' => ?_)) | (refine Wk.rsDone ?_) | (refine hK' _ _ ?_ ?_ <;> clear hK' K') | (refine hK' _ _ ?_; clear hK' K') | (refine hK' _ ?_; clear hK' K') | (refine hKT _ ?_; clear hKT hKF KT KF) | (refine hKF _ ?_; clear hKT hKF KT KF) | (refine Wk.cond ?_; intro KT KF hKT hKF) | (refine Wk.ret ?_) | (refine Wk.draw ?_ ?_ ?_; rotate_left 2; (intro K' hK')) | (refine Wk.step rfl ?_) | (refine Wk.done ?_) | (refine Fin.plain trivial ?_) | ((with_reducible refine top_goal ?_); kernel_rfl) | ((with_reducible refine takes_goal ?_); kernel_rfl) | ((with_reducible refine drop_goal ?_); kernel_rfl) | ((with_reducible refine held_goal ?_); (repeat refine And.intro rfl ?_); exact trivial) | ((with_reducible refine allB_goal ?_); kernel_rfl) | ((with_reducible refine mine_goal ?_); exact mine_of rfl) | ((with_reducible refine withV_goal ?_); refine withV_mk rfl ?_) | ((with_reducible refine hsel_goal ?_); (first | (exact hsel.nil) | (refine hsel.take (HB.like.refl _) (.inr fun _ h => h) ?_) | (refine hsel.take (like_cts ?_) (.inl rfl) ?_) | (refine hsel.skip (spare_own rfl rfl) ?_) | (refine hsel.skip spare_ro ?_))) | (refine And.intro ?_ ?_) | (intro hq; (try simp only [BF.H, Cel.eta, Rul.eta, Grd.eta, if_true, if_false] at hq); (try (exfalso; first | omega | (simp [BF.b] at hq; done)))))
      all_goals (try simp only [Cel.eta, Rul.eta, Grd.eta, if_true, if_false])
      all_goals (first | (with_reducible rfl) | (with_reducible exact trivial) | (with_reducible exact splitN_zero) | ((with_reducible refine fsub_goal ?_); exact trivial) | (with_reducible assumption) | ((with_reducible refine ble_goal ?_); rfl) | ((with_reducible refine ble2_goal ?_); (first | rfl | kernel_rfl)) | ((with_reducible refine beq_goal ?_); rfl) | omega | skip)
      all_goals (first | (simp [Cel.eta, Rul.eta, Grd.eta, den, denL, den_ofConst, BF.b, bfOf, Cel.sv, Rul.sv, Rul.turn]; done) | (simp [Cel.eta, Rul.eta, Grd.eta, den, denL, den_ofConst, BF.b, bfOf, Cel.sv, Rul.sv, Rul.turn]; omega) | (simp [Cel.eta, Rul.eta, Grd.eta, den, denL, den_ofConst, BF.b, bfOf, Cel.sv, Rul.sv, Rul.turn]; (repeat' split) <;> omega) | (simp [Cel.eta, Rul.eta, Grd.eta, den, denL, den_ofConst, BF.b, bfOf, Cel.sv, Rul.sv, Rul.turn]; rw [Bool.eq_iff_iff]; (repeat' split) <;> simp <;> omega) | (simp [Cel.eta, Rul.eta, Grd.eta, den, denL, den_ofConst, BF.b, bfOf, Cel.sv, Rul.sv, Rul.turn, *]; done) | (simp [Cel.eta, Rul.eta, Grd.eta, den, denL, den_ofConst, BF.b, bfOf, Cel.sv, Rul.sv, Rul.turn, *]; omega))
    · exact hK.elim
def G13 : List (Nat × Ctr) := (123, c_cell_turned) :: G12
theorem okG13 : GsOk Try.prog G13 := GsOk.cons k_cell_turned okG12
def c_cell_collided : Ctr := fun args _ K => match args with
  | [x0, x1] => c1 x0 fun c => r1 x1 fun r => (c.ok = true ∧ r.ok = true) ∧ K (Cel.sv (c.after r))
  | _ => False
noncomputable def X_cell_collided : Env Try.prog := ⟨Try.f78.ntmps, TT, G13, E0, Try.f78.results.toList, [(2, .x [0, 1, 2, 3, 4, 5, 6, 7] [] (.one 8 (.done)))], TT_ok, okG13, okE0, mixed⟩
theorem k_cell_collided : COk Try.prog 78 c_cell_collided :=
  ctr_of_wk X_cell_collided Try.func78 rfl (by kernel_rfl) rfl rfl fun args hp K hK => by
    unfold c_cell_collided at hK
    split at hK
    · obtain ⟨c, hK1, e0⟩ := iff_c1 hK; clear hK; have hK := hK1; clear hK1
      obtain ⟨r, hK1, e1⟩ := iff_r1 hK; clear hK; have hK := hK1; clear hK1
      obtain ⟨hpre, hK⟩ := hK
      have hf := Cel.facts hpre.1
      have ht := Cel.turn_range hpre.1 hpre.2
      refine ⟨[Cel.sv c, Rul.sv r], [], _, denL_cons (e0.symm) (denL_cons (e1.symm) (rfl)), trivial, fun _ _ b hb => (by cases hb), hK, Nat.le_of_ble_eq_true rfl, ?_⟩
      clear hK
      repeat' (first | (refine Wk.op ?_; intro K' hK') | (refine Wk.xqOp ?_; intro K' hK') | (refine Wk.rgOne ?_; intro K' hK') | (refine Wk.rgPure ?_; intro K' hK') | (refine Wk.rgX ?_; intro K' hK') | (refine Wk.xqNew ?_; intro K' hK') | (refine Wk.xqEnd ?_) | (refine Wk.rgDone ?_) | (refine Wk.rgTwo ?_ ?_ <;> intro K' hK') | (refine Wk.rgH ?_ ?_) | (refine Wk.rsTake ?_; intro K' hK') | (refine Wk.rsOne ?_ (fun K' hK' => ?_)) | (refine Wk.rsTwo ?_ ?_ (fun K' hK' => ?_) (fun K' hK' => ?_)) | (refine Wk.rsDone ?_) | (refine hK' _ _ ?_ ?_ <;> clear hK' K') | (refine hK' _ _ ?_; clear hK' K') | (refine hK' _ ?_; clear hK' K') | (refine hKT _ ?_; clear hKT hKF KT KF) | (refine hKF _ ?_; clear hKT hKF KT KF) | (refine Wk.cond ?_; intro KT KF hKT hKF) | (refine Wk.ret ?_) | (refine Wk.draw ?_ ?_ ?_; rotate_left 2; (intro K' hK')) | (refine Wk.step rfl ?_) | (refine Wk.done ?_) | (refine Fin.plain trivial ?_) | ((with_reducible refine top_goal ?_); kernel_rfl) | ((with_reducible refine takes_goal ?_); kernel_rfl) | ((with_reducible refine drop_goal ?_); kernel_rfl) | ((with_reducible refine held_goal ?_); (repeat refine And.intro rfl ?_); exact trivial) | ((with_reducible refine allB_goal ?_); kernel_rfl) | ((with_reducible refine mine_goal ?_); exact mine_of rfl) | ((with_reducible refine withV_goal ?_); refine withV_mk rfl ?_) | ((with_reducible refine hsel_goal ?_); (first | (exact hsel.nil) | (refine hsel.take (HB.like.refl _) (.inr fun _ h => h) ?_) | (refine hsel.take (like_cts ?_) (.inl rfl) ?_) | (refine hsel.skip (spare_own rfl rfl) ?_) | (refine hsel.skip spare_ro ?_))) | (refine And.intro ?_ ?_) | (intro hq; (try simp only [BF.H, Cel.eta, Rul.eta, Grd.eta, if_true, if_false] at hq); (try (exfalso; first | omega | (simp [BF.b] at hq; done)))))
      all_goals (try simp only [Cel.eta, Rul.eta, Grd.eta, if_true, if_false])
      all_goals (first | (with_reducible rfl) | (with_reducible exact trivial) | (with_reducible exact splitN_zero) | ((with_reducible refine fsub_goal ?_); exact trivial) | (with_reducible assumption) | ((with_reducible refine ble_goal ?_); rfl) | ((with_reducible refine ble2_goal ?_); (first | rfl | kernel_rfl)) | ((with_reducible refine beq_goal ?_); rfl) | omega | skip)
      all_goals (first | (simp [Cel.eta, Rul.eta, Grd.eta, den, denL, den_ofConst, BF.b, bfOf, Cel.sv, Rul.sv, Cel.after]; done) | (simp [Cel.eta, Rul.eta, Grd.eta, den, denL, den_ofConst, BF.b, bfOf, Cel.sv, Rul.sv, Cel.after]; omega) | (simp [Cel.eta, Rul.eta, Grd.eta, den, denL, den_ofConst, BF.b, bfOf, Cel.sv, Rul.sv, Cel.after]; (repeat' split) <;> omega) | (simp [Cel.eta, Rul.eta, Grd.eta, den, denL, den_ofConst, BF.b, bfOf, Cel.sv, Rul.sv, Cel.after]; rw [Bool.eq_iff_iff]; (repeat' split) <;> simp <;> omega) | (simp [Cel.eta, Rul.eta, Grd.eta, den, denL, den_ofConst, BF.b, bfOf, Cel.sv, Rul.sv, Cel.after, *]; done) | (simp [Cel.eta, Rul.eta, Grd.eta, den, denL, den_ofConst, BF.b, bfOf, Cel.sv, Rul.sv, Cel.after, *]; omega))
    · exact hK.elim
def G14 : List (Nat × Ctr) := (78, c_cell_collided) :: G13
theorem okG14 : GsOk Try.prog G14 := GsOk.cons k_cell_collided okG13
def c_cell_inverse : Ctr := fun args _ K => match args with
  | [x0] => r1 x0 fun r => (r.ok = true) ∧ K (Rul.sv r.inv)
  | _ => False
noncomputable def X_cell_inverse : Env Try.prog := ⟨Try.f80.ntmps, TT, G14, E0, Try.f80.results.toList, [], TT_ok, okG14, okE0, mixed⟩
theorem k_cell_inverse : COk Try.prog 80 c_cell_inverse :=
  ctr_of_wk X_cell_inverse Try.func80 rfl (by kernel_rfl) rfl rfl fun args hp K hK => by
    unfold c_cell_inverse at hK
    split at hK
    · obtain ⟨r, hK1, e0⟩ := iff_r1 hK; clear hK; have hK := hK1; clear hK1
      obtain ⟨hpre, hK⟩ := hK
      have hr := Rul.ok_iff.1 hpre
      refine ⟨[Rul.sv r], [], _, denL_cons (e0.symm) (rfl), trivial, fun _ _ b hb => (by cases hb), hK, Nat.le_of_ble_eq_true rfl, ?_⟩
      clear hK
      repeat' (first | (refine Wk.op ?_; intro K' hK') | (refine Wk.xqOp ?_; intro K' hK') | (refine Wk.rgOne ?_; intro K' hK') | (refine Wk.rgPure ?_; intro K' hK') | (refine Wk.rgX ?_; intro K' hK') | (refine Wk.xqNew ?_; intro K' hK') | (refine Wk.xqEnd ?_) | (refine Wk.rgDone ?_) | (refine Wk.rgTwo ?_ ?_ <;> intro K' hK') | (refine Wk.rgH ?_ ?_) | (refine Wk.rsTake ?_; intro K' hK') | (refine Wk.rsOne ?_ (fun K' hK' => ?_)) | (refine Wk.rsTwo ?_ ?_ (fun K' hK' => ?_) (fun K' hK' => ?_)) | (refine Wk.rsDone ?_) | (refine hK' _ _ ?_ ?_ <;> clear hK' K') | (refine hK' _ _ ?_; clear hK' K') | (refine hK' _ ?_; clear hK' K') | (refine hKT _ ?_; clear hKT hKF KT KF) | (refine hKF _ ?_; clear hKT hKF KT KF) | (refine Wk.cond ?_; intro KT KF hKT hKF) | (refine Wk.ret ?_) | (refine Wk.draw ?_ ?_ ?_; rotate_left 2; (intro K' hK')) | (refine Wk.step rfl ?_) | (refine Wk.done ?_) | (refine Fin.plain trivial ?_) | ((with_reducible refine top_goal ?_); kernel_rfl) | ((with_reducible refine takes_goal ?_); kernel_rfl) | ((with_reducible refine drop_goal ?_); kernel_rfl) | ((with_reducible refine held_goal ?_); (repeat refine And.intro rfl ?_); exact trivial) | ((with_reducible refine allB_goal ?_); kernel_rfl) | ((with_reducible refine mine_goal ?_); exact mine_of rfl) | ((with_reducible refine withV_goal ?_); refine withV_mk rfl ?_) | ((with_reducible refine hsel_goal ?_); (first | (exact hsel.nil) | (refine hsel.take (HB.like.refl _) (.inr fun _ h => h) ?_) | (refine hsel.take (like_cts ?_) (.inl rfl) ?_) | (refine hsel.skip (spare_own rfl rfl) ?_) | (refine hsel.skip spare_ro ?_))) | (refine And.intro ?_ ?_) | (intro hq; (try simp only [BF.H, Cel.eta, Rul.eta, Grd.eta, if_true, if_false] at hq); (try (exfalso; first | omega | (simp [BF.b] at hq; done)))))
      all_goals (try simp only [Cel.eta, Rul.eta, Grd.eta, if_true, if_false])
      all_goals (first | (with_reducible rfl) | (with_reducible exact trivial) | (with_reducible exact splitN_zero) | ((with_reducible refine fsub_goal ?_); exact trivial) | (with_reducible assumption) | ((with_reducible refine ble_goal ?_); rfl) | ((with_reducible refine ble2_goal ?_); (first | rfl | kernel_rfl)) | ((with_reducible refine beq_goal ?_); rfl) | omega | skip)
      all_goals (first | (simp [Cel.eta, Rul.eta, Grd.eta, den, denL, den_ofConst, BF.b, bfOf, Cel.sv, Rul.sv, Rul.inv]; done) | (simp [Cel.eta, Rul.eta, Grd.eta, den, denL, den_ofConst, BF.b, bfOf, Cel.sv, Rul.sv, Rul.inv]; omega) | (simp [Cel.eta, Rul.eta, Grd.eta, den, denL, den_ofConst, BF.b, bfOf, Cel.sv, Rul.sv, Rul.inv]; (repeat' split) <;> omega) | (simp [Cel.eta, Rul.eta, Grd.eta, den, denL, den_ofConst, BF.b, bfOf, Cel.sv, Rul.sv, Rul.inv]; rw [Bool.eq_iff_iff]; (repeat' split) <;> simp <;> omega) | (simp [Cel.eta, Rul.eta, Grd.eta, den, denL, den_ofConst, BF.b, bfOf, Cel.sv, Rul.sv, Rul.inv, *]; done) | (simp [Cel.eta, Rul.eta, Grd.eta, den, denL, den_ofConst, BF.b, bfOf, Cel.sv, Rul.sv, Rul.inv, *]; omega))
    · exact hK.elim
def G15 : List (Nat × Ctr) := (80, c_cell_inverse) :: G14
theorem okG15 : GsOk Try.prog G15 := GsOk.cons k_cell_inverse okG14
def c_cell_Collide : Ctr := fun args _ K => match args with
  | [x0, x1] => c1 x0 fun c => r1 x1 fun r => K (.tup [Cel.sv (c.collide r).1, .int .i64 (c.collide r).2])
  | _ => False
noncomputable def X_cell_Collide : Env Try.prog := ⟨Try.f15.ntmps, TT, G15, E0, Try.f15.results.toList, [], TT_ok, okG15, okE0, mixed⟩
theorem k_cell_Collide : COk Try.prog 15 c_cell_Collide :=
  ctr_of_wk X_cell_Collide Try.func15 rfl (by kernel_rfl) rfl rfl fun args hp K hK => by
    unfold c_cell_Collide at hK
    split at hK
    · obtain ⟨c, hK1, e0⟩ := iff_c1 hK; clear hK; have hK := hK1; clear hK1
      obtain ⟨r, hK1, e1⟩ := iff_r1 hK; clear hK; have hK := hK1; clear hK1
      refine ⟨[Cel.sv c, Rul.sv r], [], _, denL_cons (e0.symm) (denL_cons (e1.symm) (rfl)), trivial, fun _ _ b hb => (by cases hb), hK, Nat.le_of_ble_eq_true rfl, ?_⟩
      clear hK
      repeat' (first | (refine Wk.op ?_; intro K' hK') | (refine Wk.xqOp ?_; intro K' hK') | (refine Wk.rgOne ?_; intro K' hK') | (refine Wk.rgPure ?_; intro K' hK') | (refine Wk.rgX ?_; intro K' hK') | (refine Wk.xqNew ?_; intro K' hK') | (refine Wk.xqEnd ?_) | (refine Wk.rgDone ?_) | (refine Wk.rgTwo ?_ ?_ <;> intro K' hK') | (refine Wk.rgH ?_ ?_) | (refine Wk.rsTake ?_; intro K' hK') | (refine Wk.rsOne ?_ (fun K' hK' => ?_)) | (refine Wk.rsTwo ?_ ?_ (fun K' hK' => ?_) (fun K' hK' => ?_)) | (refine Wk.rsDone ?_) | (refine hK' _ _ ?_ ?_ <;> clear hK' K') | (refine hK' _ _ ?_; clear hK' K') | (refine hK' _ ?_; clear hK' K') | (refine hKT _ ?_; clear hKT hKF KT KF) | (refine hKF _ ?_; clear hKT hKF KT KF) | (refine Wk.cond ?_; intro KT KF hKT hKF) | (refine Wk.ret ?_) | (refine Wk.draw ?_ ?_ ?_; rotate_left 2; (intro K' hK')) | (refine Wk.step rfl ?_) | (refine Wk.done ?_) | (refine Fin.plain trivial ?_) | ((with_reducible refine top_goal ?_); kernel_rfl) | ((with_reducible refine takes_goal ?_); kernel_rfl) | ((with_reducible refine drop_goal ?_); kernel_rfl) | ((with_reducible refine held_goal ?_); (repeat refine And.intro rfl ?_); exact trivial) | ((with_reducible refine allB_goal ?_); kernel_rfl) | ((with_reducible refine mine_goal ?_); exact mine_of rfl) | ((with_reducible refine withV_goal ?_); refine withV_mk rfl ?_) | ((with_reducible refine hsel_goal ?_); (first | (exact hsel.nil) | (refine hsel.take (HB.like.refl _) (.inr fun _ h => h) ?_) | (refine hsel.take (like_cts ?_) (.inl rfl) ?_) | (refine hsel.skip (spare_own rfl rfl) ?_) | (refine hsel.skip spare_ro ?_))) | (refine And.intro ?_ ?_) | (intro hq; (try simp only [BF.H, Cel.eta, Rul.eta, Grd.eta, if_true, if_false] at hq); (try (exfalso; first | omega | (simp [BF.b] at hq; done)))))
      all_goals (try simp only [Cel.eta, Rul.eta, Grd.eta, if_true, if_false])
      all_goals (first | (with_reducible rfl) | (with_reducible exact trivial) | (with_reducible exact splitN_zero) | ((with_reducible refine fsub_goal ?_); exact trivial) | (with_reducible assumption) | ((with_reducible refine ble_goal ?_); rfl) | ((with_reducible refine ble2_goal ?_); (first | rfl | kernel_rfl)) | ((with_reducible refine beq_goal ?_); rfl) | omega | skip)
      all_goals (first | (simp [Cel.eta, Rul.eta, Grd.eta, den, denL, den_ofConst, BF.b, bfOf, Cel.sv, Rul.sv, Cel.collide, Cel.zero]; done) | (simp [Cel.eta, Rul.eta, Grd.eta, den, denL, den_ofConst, BF.b, bfOf, Cel.sv, Rul.sv, Cel.collide, Cel.zero]; omega) | (simp [Cel.eta, Rul.eta, Grd.eta, den, denL, den_ofConst, BF.b, bfOf, Cel.sv, Rul.sv, Cel.collide, Cel.zero]; (repeat' split) <;> omega) | (simp [Cel.eta, Rul.eta, Grd.eta, den, denL, den_ofConst, BF.b, bfOf, Cel.sv, Rul.sv, Cel.collide, Cel.zero]; rw [Bool.eq_iff_iff]; (repeat' split) <;> simp <;> omega) | (simp [Cel.eta, Rul.eta, Grd.eta, den, denL, den_ofConst, BF.b, bfOf, Cel.sv, Rul.sv, Cel.collide, Cel.zero, *]; done) | (simp [Cel.eta, Rul.eta, Grd.eta, den, denL, den_ofConst, BF.b, bfOf, Cel.sv, Rul.sv, Cel.collide, Cel.zero, *]; omega))
    · exact hK.elim
def G16 : List (Nat × Ctr) := (15, c_cell_Collide) :: G15
theorem okG16 : GsOk Try.prog G16 := GsOk.cons k_cell_Collide okG15
def c_cell_Undo : Ctr := fun args _ K => match args with
  | [x0, x1] => c1 x0 fun c => r1 x1 fun r => K (.tup [Cel.sv (c.undo r).1, .int .i64 (c.undo r).2])
  | _ => False
noncomputable def X_cell_Undo : Env Try.prog := ⟨Try.f17.ntmps, TT, G16, E0, Try.f17.results.toList, [(3, .x [0, 1, 2, 3] [] (.one 4 (.one 5 (.done))))], TT_ok, okG16, okE0, mixed⟩
theorem k_cell_Undo : COk Try.prog 17 c_cell_Undo :=
  ctr_of_wk X_cell_Undo Try.func17 rfl (by kernel_rfl) rfl rfl fun args hp K hK => by
    unfold c_cell_Undo at hK
    split at hK
    · obtain ⟨c, hK1, e0⟩ := iff_c1 hK; clear hK; have hK := hK1; clear hK1
      obtain ⟨r, hK1, e1⟩ := iff_r1 hK; clear hK; have hK := hK1; clear hK1
      refine ⟨[Cel.sv c, Rul.sv r], [], _, denL_cons (e0.symm) (denL_cons (e1.symm) (rfl)), trivial, fun _ _ b hb => (by cases hb), hK, Nat.le_of_ble_eq_true rfl, ?_⟩
      clear hK
      have hi : r.ok = true → r.inv.ok = true := Rul.inv_ok
      repeat' (first | (refine Wk.op ?_; intro K' hK') | (refine Wk.xqOp ?_; intro K' hK') | (refine Wk.rgOne ?_; intro K' hK') | (refine Wk.rgPure ?_; intro K' hK') | (refine Wk.rgX ?_; intro K' hK') | (refine Wk.xqNew ?_; intro K' hK') | (refine Wk.xqEnd ?_) | (refine Wk.rgDone ?_) | (refine Wk.rgTwo ?_ ?_ <;> intro K' hK') | (refine Wk.rgH ?_ ?_) | (refine Wk.rsTake ?_; intro K' hK') | (refine Wk.rsOne ?_ (fun K' hK' => ?_)) | (refine Wk.rsTwo ?_ ?_ (fun K' hK' => ?_) (fun K' hK' => ?_)) | (refine Wk.rsDone ?_) | (refine hK' _ _ ?_ ?_ <;> clear hK' K') | (refine hK' _ _ ?_; clear hK' K') | (refine hK' _ ?_; clear hK' K') | (refine hKT _ ?_; clear hKT hKF KT KF) | (refine hKF _ ?_; clear hKT hKF KT KF) | (refine Wk.cond ?_; intro KT KF hKT hKF) | (refine Wk.ret ?_) | (refine Wk.draw ?_ ?_ ?_; rotate_left 2; (intro K' hK')) | (refine Wk.step rfl ?_) | (refine Wk.done ?_) | (refine Fin.plain trivial ?_) | ((with_reducible refine top_goal ?_); kernel_rfl) | ((with_reducible refine takes_goal ?_); kernel_rfl) | ((with_reducible refine drop_goal ?_); kernel_rfl) | ((with_reducible refine held_goal ?_); (repeat refine And.intro rfl ?_); exact trivial) | ((with_reducible refine allB_goal ?_); kernel_rfl) | ((with_reducible refine mine_goal ?_); exact mine_of rfl) | ((with_reducible refine withV_goal ?_); refine withV_mk rfl ?_) | ((with_reducible refine hsel_goal ?_); (first | (exact hsel.nil) | (refine hsel.take (HB.like.refl _) (.inr fun _ h => h) ?_) | (refine hsel.take (like_cts ?_) (.inl rfl) ?_) | (refine hsel.skip (spare_own rfl rfl) ?_) | (refine hsel.skip spare_ro ?_))) | (refine And.intro ?_ ?_) | (intro hq; (try simp only [BF.H, Cel.eta, Rul.eta, Grd.eta, if_true, if_false] at hq); (try (exfalso; first | omega | (simp [BF.b] at hq; done)))))
      all_goals (try simp only [Cel.eta, Rul.eta, Grd.eta, if_true, if_false])
      all_goals (first | (with_reducible rfl) | (with_reducible exact trivial) | (with_reducible exact splitN_zero) | ((with_reducible refine fsub_goal ?_); exact trivial) | (with_reducible assumption) | ((with_reducible refine ble_goal ?_); rfl) | ((with_reducible refine ble2_goal ?_); (first | rfl | kernel_rfl)) | ((with_reducible refine beq_goal ?_); rfl) | omega | skip)
      all_goals (first | (simp [Cel.eta, Rul.eta, Grd.eta, den, denL, den_ofConst, BF.b, bfOf, Cel.sv, Rul.sv, Cel.undo, Cel.zero]; done) | (simp [Cel.eta, Rul.eta, Grd.eta, den, denL, den_ofConst, BF.b, bfOf, Cel.sv, Rul.sv, Cel.undo, Cel.zero]; omega) | (simp [Cel.eta, Rul.eta, Grd.eta, den, denL, den_ofConst, BF.b, bfOf, Cel.sv, Rul.sv, Cel.undo, Cel.zero]; (repeat' split) <;> omega) | (simp [Cel.eta, Rul.eta, Grd.eta, den, denL, den_ofConst, BF.b, bfOf, Cel.sv, Rul.sv, Cel.undo, Cel.zero]; rw [Bool.eq_iff_iff]; (repeat' split) <;> simp <;> omega) | (simp [Cel.eta, Rul.eta, Grd.eta, den, denL, den_ofConst, BF.b, bfOf, Cel.sv, Rul.sv, Cel.undo, Cel.zero, *]; done) | (simp [Cel.eta, Rul.eta, Grd.eta, den, denL, den_ofConst, BF.b, bfOf, Cel.sv, Rul.sv, Cel.undo, Cel.zero, *]; omega))
    · exact hK.elim
def G17 : List (Nat × Ctr) := (17, c_cell_Undo) :: G16
theorem okG17 : GsOk Try.prog G17 := GsOk.cons k_cell_Undo okG16
def c_refA_modulo : Ctr := fun args _ K => match args with
  | [x0, x1] => i1 x0 fun a => i1 x1 fun b => (0 < b ∧ b ≤ 9000000000 ∧ -9000000000000000000 ≤ a ∧ a ≤ 9000000000000000000) ∧ K (.int .i64 (a % b))
  | _ => False
noncomputable def X_refA_modulo : Env Try.prog := ⟨Try.f150.ntmps, TT, G17, E0, Try.f150.results.toList, [], TT_ok, okG17, okE0, mixed⟩
theorem k_refA_modulo : COk Try.prog 150 c_refA_modulo :=
  ctr_of_wk X_refA_modulo Try.func150 rfl (by kernel_rfl) rfl rfl fun args hp K hK => by
    unfold c_refA_modulo at hK
    split at hK
    · obtain ⟨a, hK1, e0⟩ := iff_i1 hK; clear hK; have hK := hK1; clear hK1
      obtain ⟨b, hK1, e1⟩ := iff_i1 hK; clear hK; have hK := hK1; clear hK1
      obtain ⟨hpre, hK⟩ := hK
      have ht := adj_tmod (a := a) (b := b) (by omega)
      have h1 := Int.emod_nonneg a (show b ≠ 0 by omega)
      have h2 := Int.emod_lt_of_pos a (show 0 < b by omega)
      have h3 : a.tmod b = a % b ∨ a.tmod b + b = a % b ∧ a.tmod b < 0 := by split at ht <;> omega
      refine ⟨[.int .i64 a, .int .i64 b], [], _, denL_cons (e0.symm) (denL_cons (e1.symm) (rfl)), trivial, fun _ _ b hb => (by cases hb), hK, Nat.le_of_ble_eq_true rfl, ?_⟩
      clear hK
      repeat' (first | (refine Wk.op ?_; intro K' hK') | (refine Wk.xqOp ?_; intro K' hK') | (refine Wk.rgOne ?_; intro K' hK') | (refine Wk.rgPure ?_; intro K' hK') | (refine Wk.rgX ?_; intro K' hK') | (refine Wk.xqNew ?_; intro K' hK') | (refine Wk.xqEnd ?_) | (refine Wk.rgDone ?_) | (refine Wk.rgTwo ?_ ?_ <;> intro K' hK') | (refine Wk.rgH ?_ ?_) | (refine Wk.rsTake ?_; intro K' hK') | (refine Wk.rsOne ?_ (fun K' hK' => ?_)) | (refine Wk.rsTwo ?_ ?_ (fun K' hK' => ?_) (fun K' hK' => ?_)) | (refine Wk.rsDone ?_) | (refine hK' _ _ ?_ ?_ <;> clear hK' K') | (refine hK' _ _ ?_; clear hK' K') | (refine hK' _ ?_; clear hK' K') | (refine hKT _ ?_; clear hKT hKF KT KF) | (refine hKF _ ?_; clear hKT hKF KT KF) | (refine Wk.cond ?_; intro KT KF hKT hKF) | (refine Wk.ret ?_) | (refine Wk.draw ?_ ?_ ?_; rotate_left 2; (intro K' hK')) | (refine Wk.step rfl ?_) | (refine Wk.done ?_) | (refine Fin.plain trivial ?_) | ((with_reducible refine top_goal ?_); kernel_rfl) | ((with_reducible refine takes_goal ?_); kernel_rfl) | ((with_reducible refine drop_goal ?_); kernel_rfl) | ((with_reducible refine held_goal ?_); (repeat refine And.intro rfl ?_); exact trivial) | ((with_reducible refine allB_goal ?_); kernel_rfl) | ((with_reducible refine mine_goal ?_); exact mine_of rfl) | ((with_reducible refine withV_goal ?_); refine withV_mk rfl ?_) | ((with_reducible refine hsel_goal ?_); (first | (exact hsel.nil) | (refine hsel.take (HB.like.refl _) (.inr fun _ h => h) ?_) | (refine hsel.take (like_cts ?_) (.inl rfl) ?_) | (refine hsel.skip (spare_own rfl rfl) ?_) | (refine hsel.skip spare_ro ?_))) | (refine And.intro ?_ ?_) | (intro hq; (try simp only [BF.H, Cel.eta, Rul.eta, Grd.eta, if_true, if_false] at hq); (try (exfalso; first | omega | (simp [BF.b] at hq; done)))))
      all_goals (try simp only [Cel.eta, Rul.eta, Grd.eta, if_true, if_false])
      all_goals (first | (with_reducible rfl) | (with_reducible exact trivial) | (with_reducible exact splitN_zero) | ((with_reducible refine fsub_goal ?_); exact trivial) | (with_reducible assumption) | ((with_reducible refine ble_goal ?_); rfl) | ((with_reducible refine ble2_goal ?_); (first | rfl | kernel_rfl)) | ((with_reducible refine beq_goal ?_); rfl) | omega | skip)
      all_goals (simp [den, denL]; split at ht <;> omega)
    · exact hK.elim
def G18 : List (Nat × Ctr) := (150, c_refA_modulo) :: G17
theorem okG18 : GsOk Try.prog G18 := GsOk.cons k_refA_modulo okG17
def c_refA_Turn : Ctr := fun args _ K => match args with
  | [x0, x1, x2] => r1 x0 fun r => i1 x1 fun h => i1 x2 fun p => (r.ok = true ∧ 0 ≤ h ∧ h ≤ p ∧ p ≤ 1000000000) ∧ K (.int .i64 (r.turn h p))
  | _ => False
noncomputable def X_refA_Turn : Env Try.prog := ⟨Try.f124.ntmps, TT, G18, E0, Try.f124.results.toList, [], TT_ok, okG18, okE0, mixed⟩
theorem k_refA_Turn : COk Try.prog 124 c_refA_Turn :=
  ctr_of_wk X_refA_Turn Try.func124 rfl (by kernel_rfl) rfl rfl fun args hp K hK => by
    unfold c_refA_Turn at hK
    split at hK
    · obtain ⟨r, hK1, e0⟩ := iff_r1 hK; clear hK; have hK := hK1; clear hK1
      obtain ⟨h, hK1, e1⟩ := iff_i1 hK; clear hK; have hK := hK1; clear hK1
      obtain ⟨p, hK1, e2⟩ := iff_i1 hK; clear hK; have hK := hK1; clear hK1
      obtain ⟨hpre, hK⟩ := hK
      have hr := Rul.ok_iff.1 hpre.1
      refine ⟨[Rul.sv r, .int .i64 h, .int .i64 p], [], _, denL_cons (e0.symm) (denL_cons (e1.symm) (denL_cons (e2.symm) (rfl))), trivial, fun _ _ b hb => (by cases hb), hK, Nat.le_of_ble_eq_true rfl, ?_⟩
      clear hK
      repeat' (first | (refine Wk.op ?_; intro K' hK') | (refine Wk.xqOp ?_; intro K' hK') | (refine Wk.rgOne ?_; intro K' hK') | (refine Wk.rgPure ?_; intro K' hK') | (refine Wk.rgX ?_; intro K' hK') | (refine Wk.xqNew ?_; intro K' hK') | (refine Wk.xqEnd ?_) | (refine Wk.rgDone ?_) | (refine Wk.rgTwo ?_ ?_ <;> intro K' hK') | (refine Wk.rgH ?_ ?_) | (refine Wk.rsTake ?_; intro K' hK') | (refine Wk.rsOne ?_ (fun K' hK' => ?_)) | (refine Wk.rsTwo ?_ ?_ (fun K' hK' => ?_) (fun K' hK' => ?_)) | (refine Wk.rsDone ?_) | (refine hK' _ _ ?_ ?_ <;> clear hK' K') | (refine hK' _ _ ?_; clear hK' K') | (refine hK' _ ?_; clear hK' K') | (refine hKT _ ?_; clear hKT hKF KT KF) | (refine hKF _ ?_; clear hKT hKF KT KF) | (refine Wk.cond ?_; intro KT KF hKT hKF) | (refine Wk.ret ?_) | (refine Wk.draw ?_ ?_ ?_; rotate_left 2; (intro K' hK')) | (refine Wk.step rfl ?_) | (refine Wk.done ?_) | (refine Fin.plain trivial ?_) | ((with_reducible refine top_goal ?_); kernel_rfl) | ((with_reducible refine takes_goal ?_); kernel_rfl) | ((with_reducible refine drop_goal ?_); kernel_rfl) | ((with_reducible refine held_goal ?_); (repeat refine And.intro rfl ?_); exact trivial) | ((with_reducible refine allB_goal ?_); kernel_rfl) | ((with_reducible refine mine_goal ?_); exact mine_of rfl) | ((with_reducible refine withV_goal ?_); refine withV_mk rfl ?_) | ((with_reducible refine hsel_goal ?_); (first | (exact hsel.nil) | (refine hsel.take (HB.like.refl _) (.inr fun _ h => h) ?_) | (refine hsel.take (like_cts ?_) (.inl rfl) ?_) | (refine hsel.skip (spare_own rfl rfl) ?_) | (refine hsel.skip spare_ro ?_))) | (refine And.intro ?_ ?_) | (intro hq; (try simp only [BF.H, Cel.eta, Rul.eta, Grd.eta, if_true, if_false] at hq); (try (exfalso; first | omega | (simp [BF.b] at hq; done)))))
      all_goals (try simp only [Cel.eta, Rul.eta, Grd.eta, if_true, if_false])
      all_goals (first | (with_reducible rfl) | (with_reducible exact trivial) | (with_reducible exact splitN_zero) | ((with_reducible refine fsub_goal ?_); exact trivial) | (with_reducible assumption) | ((with_reducible refine ble_goal ?_); rfl) | ((with_reducible refine ble2_goal ?_); (first | rfl | kernel_rfl)) | ((with_reducible refine beq_goal ?_); rfl) | omega | skip)
      all_goals (first | (simp [Cel.eta, Rul.eta, Grd.eta, den, denL, den_ofConst, BF.b, bfOf, Cel.sv, Rul.sv, Rul.turn]; done) | (simp [Cel.eta, Rul.eta, Grd.eta, den, denL, den_ofConst, BF.b, bfOf, Cel.sv, Rul.sv, Rul.turn]; omega) | (simp [Cel.eta, Rul.eta, Grd.eta, den, denL, den_ofConst, BF.b, bfOf, Cel.sv, Rul.sv, Rul.turn]; (repeat' split) <;> omega) | (simp [Cel.eta, Rul.eta, Grd.eta, den, denL, den_ofConst, BF.b, bfOf, Cel.sv, Rul.sv, Rul.turn]; rw [Bool.eq_iff_iff]; (repeat' split) <;> simp <;> omega) | (simp [Cel.eta, Rul.eta, Grd.eta, den, denL, den_ofConst, BF.b, bfOf, Cel.sv, Rul.sv, Rul.turn, *]; done) | (simp [Cel.eta, Rul.eta, Grd.eta, den, denL, den_ofConst, BF.b, bfOf, Cel.sv, Rul.sv, Rul.turn, *]; omega))
    · exact hK.elim
def G19 : List (Nat × Ctr) := (124, c_refA_Turn) :: G18
theorem okG19 : GsOk Try.prog G19 := GsOk.cons k_refA_Turn okG18
def c_refA_Opposite : Ctr := fun args _ K => match args with
  | [x0] => r1 x0 fun r => (r.ok = true) ∧ K (Rul.sv r.inv)
  | _ => False
noncomputable def X_refA_Opposite : Env Try.prog := ⟨Try.f81.ntmps, TT, G19, E0, Try.f81.results.toList, [], TT_ok, okG19, okE0, mixed⟩
theorem k_refA_Opposite : COk Try.prog 81 c_refA_Opposite :=
  ctr_of_wk X_refA_Opposite Try.func81 rfl (by kernel_rfl) rfl rfl fun args hp K hK => by
    unfold c_refA_Opposite at hK
    split at hK
    · obtain ⟨r, hK1, e0⟩ := iff_r1 hK; clear hK; have hK := hK1; clear hK1
      obtain ⟨hpre, hK⟩ := hK
      have hr := Rul.ok_iff.1 hpre
      refine ⟨[Rul.sv r], [], _, denL_cons (e0.symm) (rfl), trivial, fun _ _ b hb => (by cases hb), hK, Nat.le_of_ble_eq_true rfl, ?_⟩
      clear hK
      repeat' (first | (refine Wk.op ?_; intro K' hK') | (refine Wk.xqOp ?_; intro K' hK') | (refine Wk.rgOne ?_; intro K' hK') | (refine Wk.rgPure ?_; intro K' hK') | (refine Wk.rgX ?_; intro K' hK') | (refine Wk.xqNew ?_; intro K' hK') | (refine Wk.xqEnd ?_) | (refine Wk.rgDone ?_) | (refine Wk.rgTwo ?_ ?_ <;> intro K' hK') | (refine Wk.rgH ?_ ?_) | (refine Wk.rsTake ?_; intro K' hK') | (refine Wk.rsOne ?_ (fun K' hK' => ?_)) | (refine Wk.rsTwo ?_ ?_ (fun K' hK' => ?_) (fun K' hK' => ?_)) | (refine Wk.rsDone ?_) | (refine hK' _ _ ?_ ?_ <;> clear hK' K') | (refine hK' _ _ ?_; clear hK' K') | (refine hK' _ ?_; clear hK' K') | (refine hKT _ ?_; clear hKT hKF KT KF) | (refine hKF _ ?_; clear hKT hKF KT KF) | (refine Wk.cond ?_; intro KT KF hKT hKF) | (refine Wk.ret ?_) | (refine Wk.draw ?_ ?_ ?_; rotate_left 2; (intro K' hK')) | (refine Wk.step rfl ?_) | (refine Wk.done ?_) | (refine Fin.plain trivial ?_) | ((with_reducible refine top_goal ?_); kernel_rfl) | ((with_reducible refine takes_goal ?_); kernel_rfl) | ((with_reducible refine drop_goal ?_); kernel_rfl) | ((with_reducible refine held_goal ?_); (repeat refine And.intro rfl ?_); exact trivial) | ((with_reducible refine allB_goal ?_); kernel_rfl) | ((with_reducible refine mine_goal ?_); exact mine_of rfl) | ((with_reducible refine withV_goal ?_); refine withV_mk rfl ?_) | ((with_reducible refine hsel_goal ?_); (first | (exact hsel.nil) | (refine hsel.take (HB.like.refl _) (.inr fun _ h => h) ?_) | (refine hsel.take (like_cts ?_) (.inl rfl) ?_) | (refine hsel.skip (spare_own rfl rfl) ?_) | (refine hsel.skip spare_ro ?_))) | (refine And.intro ?_ ?_) | (intro hq; (try simp only [BF.H, Cel.eta, Rul.eta, Grd.eta, if_true, if_false] at hq); (try (exfalso; first | omega | (simp [BF.b] at hq; done)))))
      all_goals (try simp only [Cel.eta, Rul.eta, Grd.eta, if_true, if_false])
      all_goals (first | (with_reducible rfl) | (with_reducible exact trivial) | (with_reducible exact splitN_zero) | ((with_reducible refine fsub_goal ?_); exact trivial) | (with_reducible assumption) | ((with_reducible refine ble_goal ?_); rfl) | ((with_reducible refine ble2_goal ?_); (first | rfl | kernel_rfl)) | ((with_reducible refine beq_goal ?_); rfl) | omega | skip)
      all_goals (first | (simp [Cel.eta, Rul.eta, Grd.eta, den, denL, den_ofConst, BF.b, bfOf, Cel.sv, Rul.sv, Rul.inv]; done) | (simp [Cel.eta, Rul.eta, Grd.eta, den, denL, den_ofConst, BF.b, bfOf, Cel.sv, Rul.sv, Rul.inv]; omega) | (simp [Cel.eta, Rul.eta, Grd.eta, den, denL, den_ofConst, BF.b, bfOf, Cel.sv, Rul.sv, Rul.inv]; (repeat' split) <;> omega) | (simp [Cel.eta, Rul.eta, Grd.eta, den, denL, den_ofConst, BF.b, bfOf, Cel.sv, Rul.sv, Rul.inv]; rw [Bool.eq_iff_iff]; (repeat' split) <;> simp <;> omega) | (simp [Cel.eta, Rul.eta, Grd.eta, den, denL, den_ofConst, BF.b, bfOf, Cel.sv, Rul.sv, Rul.inv, *]; done) | (simp [Cel.eta, Rul.eta, Grd.eta, den, denL, den_ofConst, BF.b, bfOf, Cel.sv, Rul.sv, Rul.inv, *]; omega))
    · exact hK.elim
def G20 : List (Nat × Ctr) := (81, c_refA_Opposite) :: G19
theorem okG20 : GsOk Try.prog G20 := GsOk.cons k_refA_Opposite okG19
def c_cell_Mass : Ctr := fun args _ K => match args with
  | [x0] => c1 x0 fun c => K (.tup [.int .i64 c.mass.1, .int .i64 c.mass.2])
  | _ => False
noncomputable def X_cell_Mass : Env Try.prog := ⟨Try.f30.ntmps, TT, G20, E0, Try.f30.results.toList, [], TT_ok, okG20, okE0, mixed⟩
theorem k_cell_Mass : COk Try.prog 30 c_cell_Mass :=
  ctr_of_wk X_cell_Mass Try.func30 rfl (by kernel_rfl) rfl rfl fun args hp K hK => by
    unfold c_cell_Mass at hK
    split at hK
    · obtain ⟨c, hK1, e0⟩ := iff_c1 hK; clear hK; have hK := hK1; clear hK1
      refine ⟨[Cel.sv c], [], _, denL_cons (e0.symm) (rfl), trivial, fun _ _ b hb => (by cases hb), hK, Nat.le_of_ble_eq_true rfl, ?_⟩
      clear hK
      repeat' (first | (refine Wk.op ?_; intro K' hK') | (refine Wk.xqOp ?_; intro K' hK') | (refine Wk.rgOne ?_; intro K' hK') | (refine Wk.rgPure ?_; intro K' hK') | (refine Wk.rgX ?_; intro K' hK') | (refine Wk.xqNew ?_; intro K' hK') | (refine Wk.xqEnd ?_) | (refine Wk.rgDone ?_) | (refine Wk.rgTwo ?_ ?_ <;> intro K' hK') | (refine Wk.rgH ?_ ?_) | (refine Wk.rsTake ?_; intro K' hK') | (refine Wk.rsOne ?_ (fun K' hK' => ?_)) | (refine Wk.rsTwo ?_ ?_ (fun K' hK' => ?_) (fun K' hK' => ?_)) | (refine Wk.rsDone ?_) | (refine hK' _ _ ?_ ?_ <;> clear hK' K') | (refine hK' _ _ ?_; clear hK' K') | (refine hK' _ ?_; clear hK' K') | (refine hKT _ ?_; clear hKT hKF KT KF) | (refine hKF _ ?_; clear hKT hKF KT KF) | (refine Wk.cond ?_; intro KT KF hKT hKF) | (refine Wk.ret ?_) | (refine Wk.draw ?_ ?_ ?_; rotate_left 2; (intro K' hK')) | (refine Wk.step rfl ?_) | (refine Wk.done ?_) | (refine Fin.plain trivial ?_) | ((with_reducible refine top_goal ?_); kernel_rfl) | ((with_reducible refine takes_goal ?_); kernel_rfl) | ((with_reducible refine drop_goal ?_); kernel_rfl) | ((with_reducible refine held_goal ?_); (repeat refine And.intro rfl ?_); exact trivial) | ((with_reducible refine allB_goal ?_); kernel_rfl) | ((with_reducible refine mine_goal ?_); exact mine_of rfl) | ((with_reducible refine withV_goal ?_); refine withV_mk rfl ?_) | ((with_reducible refine hsel_goal ?_); (first | (exact hsel.nil) | (refine hsel.take (HB.like.refl _) (.inr fun _ h => h) ?_) | (refine hsel.take (like_cts ?_) (.inl rfl) ?_) | (refine hsel.skip (spare_own rfl rfl) ?_) | (refine hsel.skip spare_ro ?_))) | (refine And.intro ?_ ?_) | (intro hq; (try simp only [BF.H, Cel.eta, Rul.eta, Grd.eta, if_true, if_false] at hq); (try (exfalso; first | omega | (simp [BF.b] at hq; done)))))
      all_goals (try simp only [Cel.eta, Rul.eta, Grd.eta, if_true, if_false])
      all_goals (first | (with_reducible rfl) | (with_reducible exact trivial) | (with_reducible exact splitN_zero) | ((with_reducible refine fsub_goal ?_); exact trivial) | (with_reducible assumption) | ((with_reducible refine ble_goal ?_); rfl) | ((with_reducible refine ble2_goal ?_); (first | rfl | kernel_rfl)) | ((with_reducible refine beq_goal ?_); rfl) | omega | skip)
      all_goals (first | (have h9 := Cel.facts (by assumption); (first | omega | (simp [Cel.eta, Rul.eta, Grd.eta, den, denL, den_ofConst, BF.b, bfOf, Cel.sv, Rul.sv, Cel.mass, Cel.sum, Cel.cls, *]; done) | (simp [Cel.eta, Rul.eta, Grd.eta, den, denL, den_ofConst, BF.b, bfOf, Cel.sv, Rul.sv, Cel.mass, Cel.sum, Cel.cls, *]; omega))) | (simp [Cel.eta, Rul.eta, Grd.eta, den, denL, den_ofConst, BF.b, bfOf, Cel.sv, Rul.sv, Cel.mass, Cel.sum, Cel.cls]; done) | (simp [Cel.eta, Rul.eta, Grd.eta, den, denL, den_ofConst, BF.b, bfOf, Cel.sv, Rul.sv, Cel.mass, Cel.sum, Cel.cls]; omega) | (simp [Cel.eta, Rul.eta, Grd.eta, den, denL, den_ofConst, BF.b, bfOf, Cel.sv, Rul.sv, Cel.mass, Cel.sum, Cel.cls]; (repeat' split) <;> omega) | (simp [Cel.eta, Rul.eta, Grd.eta, den, denL, den_ofConst, BF.b, bfOf, Cel.sv, Rul.sv, Cel.mass, Cel.sum, Cel.cls]; rw [Bool.eq_iff_iff]; (repeat' split) <;> simp <;> omega) | (simp [Cel.eta, Rul.eta, Grd.eta, den, denL, den_ofConst, BF.b, bfOf, Cel.sv, Rul.sv, Cel.mass, Cel.sum, Cel.cls, *]; done) | (simp [Cel.eta, Rul.eta, Grd.eta, den, denL, den_ofConst, BF.b, bfOf, Cel.sv, Rul.sv, Cel.mass, Cel.sum, Cel.cls, *]; omega))
    · exact hK.elim
def G21 : List (Nat × Ctr) := (30, c_cell_Mass) :: G20
theorem okG21 : GsOk Try.prog G21 := GsOk.cons k_cell_Mass okG20
def c_refA_Sum : Ctr := fun args _ K => match args with
  | [x0, x1] => c1 x0 fun a => c1 x1 fun b => (a.ok = true ∧ b.ok = true) ∧ K (Cel.sv (a.add b))
  | _ => False
noncomputable def X_refA_Sum : Env Try.prog := ⟨Try.f93.ntmps, TT, G21, E0, Try.f93.results.toList, [(4, .x [0, 1, 2, 3, 4, 5, 6, 7, 8] [] (.one 9 (.done)))], TT_ok, okG21, okE0, mixed⟩
theorem k_refA_Sum : COk Try.prog 93 c_refA_Sum :=
  ctr_of_wk X_refA_Sum Try.func93 rfl (by kernel_rfl) rfl rfl fun args hp K hK => by
    unfold c_refA_Sum at hK
    split at hK
    · obtain ⟨a, hK1, e0⟩ := iff_c1 hK; clear hK; have hK := hK1; clear hK1
      obtain ⟨b, hK1, e1⟩ := iff_c1 hK; clear hK; have hK := hK1; clear hK1
      obtain ⟨hpre, hK⟩ := hK
      have fa := Cel.facts (c := a) hpre.1
      have fb := Cel.facts (c := b) hpre.2
      refine ⟨[Cel.sv a, Cel.sv b], [], _, denL_cons (e0.symm) (denL_cons (e1.symm) (rfl)), trivial, fun _ _ b hb => (by cases hb), hK, Nat.le_of_ble_eq_true rfl, ?_⟩
      clear hK
      repeat' (first | (refine Wk.op ?_; intro K' hK') | (refine Wk.xqOp ?_; intro K' hK') | (refine Wk.rgOne ?_; intro K' hK') | (refine Wk.rgPure ?_; intro K' hK') | (refine Wk.rgX ?_; intro K' hK') | (refine Wk.xqNew ?_; intro K' hK') | (refine Wk.xqEnd ?_) | (refine Wk.rgDone ?_) | (refine Wk.rgTwo ?_ ?_ <;> intro K' hK') | (refine Wk.rgH ?_ ?_) | (refine Wk.rsTake ?_; intro K' hK') | (refine Wk.rsOne ?_ (fun K' hK' => ?_)) | (refine Wk.rsTwo ?_ ?_ (fun K' hK' => ?_) (fun K' hK' => ?_)) | (refine Wk.rsDone ?_) | (refine hK' _ _ ?_ ?_ <;> clear hK' K') | (refine hK' _ _ ?_; clear hK' K') | (refine hK' _ ?_; clear hK' K') | (refine hKT _ ?_; clear hKT hKF KT KF) | (refine hKF _ ?_; clear hKT hKF KT KF) | (refine Wk.cond ?_; intro KT KF hKT hKF) | (refine Wk.ret ?_) | (refine Wk.draw ?_ ?_ ?_; rotate_left 2; (intro K' hK')) | (refine Wk.step rfl ?_) | (refine Wk.rounds (X := X_refA_Sum) (t := .b 0 :: _) 5 ?_) | (refine Wk.done ?_) | (refine Fin.plain trivial ?_) | ((with_reducible refine top_goal ?_); kernel_rfl) | ((with_reducible refine takes_goal ?_); kernel_rfl) | ((with_reducible refine drop_goal ?_); kernel_rfl) | ((with_reducible refine held_goal ?_); (repeat refine And.intro rfl ?_); exact trivial) | ((with_reducible refine allB_goal ?_); kernel_rfl) | ((with_reducible refine mine_goal ?_); exact mine_of rfl) | ((with_reducible refine withV_goal ?_); refine withV_mk rfl ?_) | ((with_reducible refine hsel_goal ?_); (first | (exact hsel.nil) | (refine hsel.take (HB.like.refl _) (.inr fun _ h => h) ?_) | (refine hsel.take (like_cts ?_) (.inl rfl) ?_) | (refine hsel.skip (spare_own rfl rfl) ?_) | (refine hsel.skip spare_ro ?_))) | (refine And.intro ?_ ?_) | (intro hq; (try simp only [BF.H, Cel.eta, Rul.eta, Grd.eta, if_true, if_false] at hq); (try (exfalso; first | omega | (simp [BF.b] at hq; done)))))
      all_goals (try simp only [Cel.eta, Rul.eta, Grd.eta, if_true, if_false])
      all_goals (first | (with_reducible rfl) | (with_reducible exact trivial) | (with_reducible exact splitN_zero) | ((with_reducible refine fsub_goal ?_); exact trivial) | (with_reducible assumption) | ((with_reducible refine ble_goal ?_); rfl) | ((with_reducible refine ble2_goal ?_); (first | rfl | kernel_rfl)) | ((with_reducible refine beq_goal ?_); rfl) | omega | skip)
      all_goals (first | (have h9 := Cel.facts (by assumption); (first | omega | (simp [Cel.eta, Rul.eta, Grd.eta, den, denL, den_ofConst, BF.b, bfOf, Cel.sv, Rul.sv, Cel.add, *]; done) | (simp [Cel.eta, Rul.eta, Grd.eta, den, denL, den_ofConst, BF.b, bfOf, Cel.sv, Rul.sv, Cel.add, *]; omega))) | (simp [Cel.eta, Rul.eta, Grd.eta, den, denL, den_ofConst, BF.b, bfOf, Cel.sv, Rul.sv, Cel.add]; done) | (simp [Cel.eta, Rul.eta, Grd.eta, den, denL, den_ofConst, BF.b, bfOf, Cel.sv, Rul.sv, Cel.add]; omega) | (simp [Cel.eta, Rul.eta, Grd.eta, den, denL, den_ofConst, BF.b, bfOf, Cel.sv, Rul.sv, Cel.add]; (repeat' split) <;> omega) | (simp [Cel.eta, Rul.eta, Grd.eta, den, denL, den_ofConst, BF.b, bfOf, Cel.sv, Rul.sv, Cel.add]; rw [Bool.eq_iff_iff]; (repeat' split) <;> simp <;> omega) | (simp [Cel.eta, Rul.eta, Grd.eta, den, denL, den_ofConst, BF.b, bfOf, Cel.sv, Rul.sv, Cel.add, *]; done) | (simp [Cel.eta, Rul.eta, Grd.eta, den, denL, den_ofConst, BF.b, bfOf, Cel.sv, Rul.sv, Cel.add, *]; omega))
    · exact hK.elim
def G22 : List (Nat × Ctr) := (93, c_refA_Sum) :: G21
theorem okG22 : GsOk Try.prog G22 := GsOk.cons k_refA_Sum okG21
def c_phase_within : Ctr := fun args _ K => match args with
  | [x0, x1, x2] => i1 x0 fun n => i1 x1 fun lo => i1 x2 fun hi => K (.bool (.and (.le lo n) (.le n hi)))
  | _ => False
noncomputable def X_phase_within : Env Try.prog := ⟨Try.f126.ntmps, TT, G22, E0, Try.f126.results.toList, [], TT_ok, okG22, okE0, mixed⟩
theorem k_phase_within : COk Try.prog 126 c_phase_within :=
  ctr_of_wk X_phase_within Try.func126 rfl (by kernel_rfl) rfl rfl fun args hp K hK => by
    unfold c_phase_within at hK
    split at hK
    · obtain ⟨n, hK1, e0⟩ := iff_i1 hK; clear hK; have hK := hK1; clear hK1
      obtain ⟨lo, hK1, e1⟩ := iff_i1 hK; clear hK; have hK := hK1; clear hK1
      obtain ⟨hi, hK1, e2⟩ := iff_i1 hK; clear hK; have hK := hK1; clear hK1
      refine ⟨[.int .i64 n, .int .i64 lo, .int .i64 hi], [], _, denL_cons (e0.symm) (denL_cons (e1.symm) (denL_cons (e2.symm) (rfl))), trivial, fun _ _ b hb => (by cases hb), hK, Nat.le_of_ble_eq_true rfl, ?_⟩
      clear hK
      repeat' (first | (refine Wk.op ?_; intro K' hK') | (refine Wk.xqOp ?_; intro K' hK') | (refine Wk.rgOne ?_; intro K' hK') | (refine Wk.rgPure ?_; intro K' hK') | (refine Wk.rgX ?_; intro K' hK') | (refine Wk.xqNew ?_; intro K' hK') | (refine Wk.xqEnd ?_) | (refine Wk.rgDone ?_) | (refine Wk.rgTwo ?_ ?_ <;> intro K' hK') | (refine Wk.rgH ?_ ?_) | (refine Wk.rsTake ?_; intro K' hK') | (refine Wk.rsOne ?_ (fun K' hK' => ?_)) | (refine Wk.rsTwo ?_ ?_ (fun K' hK' => ?_) (fun K' hK' => ?_)) | (refine Wk.rsDone ?_) | (refine hK' _ _ ?_ ?_ <;> clear hK' K') | (refine hK' _ _ ?_; clear hK' K') | (refine hK' _ ?_; clear hK' K') | (refine hKT _ ?_; clear hKT hKF KT KF) | (refine hKF _ ?_; clear hKT hKF KT KF) | (refine Wk.cond ?_; intro KT KF hKT hKF) | (refine Wk.ret ?_) | (refine Wk.draw ?_ ?_ ?_; rotate_left 2; (intro K' hK')) | (refine Wk.step rfl ?_) | (refine Wk.done ?_) | (refine Fin.plain trivial ?_) | ((with_reducible refine top_goal ?_); kernel_rfl) | ((with_reducible refine takes_goal ?_); kernel_rfl) | ((with_reducible refine drop_goal ?_); kernel_rfl) | ((with_reducible refine held_goal ?_); (repeat refine And.intro rfl ?_); exact trivial) | ((with_reducible refine allB_goal ?_); kernel_rfl) | ((with_reducible refine mine_goal ?_); exact mine_of rfl) | ((with_reducible refine withV_goal ?_); refine withV_mk rfl ?_) | ((with_reducible refine hsel_goal ?_); (first | (exact hsel.nil) | (refine hsel.take (HB.like.refl _) (.inr fun _ h => h) ?_) | (refine hsel.take (like_cts ?_) (.inl rfl) ?_) | (refine hsel.skip (spare_own rfl rfl) ?_) | (refine hsel.skip spare_ro ?_))) | (refine And.intro ?_ ?_) | (intro hq; (try simp only [BF.H, Cel.eta, Rul.eta, Grd.eta, if_true, if_false] at hq); (try (exfalso; first | omega | (simp [BF.b] at hq; done)))))
      all_goals (try simp only [Cel.eta, Rul.eta, Grd.eta, if_true, if_false])
      all_goals (first | (with_reducible rfl) | (with_reducible exact trivial) | (with_reducible exact splitN_zero) | ((with_reducible refine fsub_goal ?_); exact trivial) | (with_reducible assumption) | ((with_reducible refine ble_goal ?_); rfl) | ((with_reducible refine ble2_goal ?_); (first | rfl | kernel_rfl)) | ((with_reducible refine beq_goal ?_); rfl) | omega | skip)
      all_goals (first | (simp [Cel.eta, Rul.eta, Grd.eta, den, denL, den_ofConst, BF.b, bfOf, Cel.sv, Rul.sv]; done) | (simp [Cel.eta, Rul.eta, Grd.eta, den, denL, den_ofConst, BF.b, bfOf, Cel.sv, Rul.sv]; omega) | (simp [Cel.eta, Rul.eta, Grd.eta, den, denL, den_ofConst, BF.b, bfOf, Cel.sv, Rul.sv]; (repeat' split) <;> omega) | (simp [Cel.eta, Rul.eta, Grd.eta, den, denL, den_ofConst, BF.b, bfOf, Cel.sv, Rul.sv]; rw [Bool.eq_iff_iff]; (repeat' split) <;> simp <;> omega) | (simp [Cel.eta, Rul.eta, Grd.eta, den, denL, den_ofConst, BF.b, bfOf, Cel.sv, Rul.sv, *]; done) | (simp [Cel.eta, Rul.eta, Grd.eta, den, denL, den_ofConst, BF.b, bfOf, Cel.sv, Rul.sv, *]; omega))
    · exact hK.elim
def G23 : List (Nat × Ctr) := (126, c_phase_within) :: G22
theorem okG23 : GsOk Try.prog G23 := GsOk.cons k_phase_within okG22
def c_refD_within : Ctr := fun args _ K => match args with
  | [x0, x1, x2] => i1 x0 fun n => i1 x1 fun lo => i1 x2 fun hi => K (.bool (.and (.le lo n) (.le n hi)))
  | _ => False
noncomputable def X_refD_within : Env Try.prog := ⟨Try.f128.ntmps, TT, G23, E0, Try.f128.results.toList, [], TT_ok, okG23, okE0, mixed⟩
theorem k_refD_within : COk Try.prog 128 c_refD_within :=
  ctr_of_wk X_refD_within Try.func128 rfl (by kernel_rfl) rfl rfl fun args hp K hK => by
    unfold c_refD_within at hK
    split at hK
    · obtain ⟨n, hK1, e0⟩ := iff_i1 hK; clear hK; have hK := hK1; clear hK1
      obtain ⟨lo, hK1, e1⟩ := iff_i1 hK; clear hK; have hK := hK1; clear hK1
      obtain ⟨hi, hK1, e2⟩ := iff_i1 hK; clear hK; have hK := hK1; clear hK1
      refine ⟨[.int .i64 n, .int .i64 lo, .int .i64 hi], [], _, denL_cons (e0.symm) (denL_cons (e1.symm) (denL_cons (e2.symm) (rfl))), trivial, fun _ _ b hb => (by cases hb), hK, Nat.le_of_ble_eq_true rfl, ?_⟩
      clear hK
      repeat' (first | (refine Wk.op ?_; intro K' hK') | (refine Wk.xqOp ?_; intro K' hK') | (refine Wk.rgOne ?_; intro K' hK') | (refine Wk.rgPure ?_; intro K' hK') | (refine Wk.rgX ?_; intro K' hK') | (refine Wk.xqNew ?_; intro K' hK') | (refine Wk.xqEnd ?_) | (refine Wk.rgDone ?_) | (refine Wk.rgTwo ?_ ?_ <;> intro K' hK') | (refine Wk.rgH ?_ ?_) | (refine Wk.rsTake ?_; intro K' hK') | (refine Wk.rsOne ?_ (fun K' hK' => ?_)) | (refine Wk.rsTwo ?_ ?_ (fun K' hK' => ?_) (fun K' hK' => ?_)) | (refine Wk.rsDone ?_) | (refine hK' _ _ ?_ ?_ <;> clear hK' K') | (refine hK' _ _ ?_; clear hK' K') | (refine hK' _ ?_; clear hK' K') | (refine hKT _ ?_; clear hKT hKF KT KF) | (refine hKF _ ?_; clear hKT hKF KT KF) | (refine Wk.cond ?_; intro KT KF hKT hKF) | (refine Wk.ret ?_) | (refine Wk.draw ?_ ?_ ?_; rotate_left 2; (intro K' hK')) | (refine Wk.step rfl ?_) | (refine Wk.done ?_) | (refine Fin.plain trivial ?_) | ((with_reducible refine top_goal ?_); kernel_rfl) | ((with_reducible refine takes_goal ?_); kernel_rfl) | ((with_reducible refine drop_goal ?_); kernel_rfl) | ((with_reducible refine held_goal ?_); (repeat refine And.intro rfl ?_); exact trivial) | ((with_reducible refine allB_goal ?_); kernel_rfl) | ((with_reducible refine mine_goal ?_); exact mine_of rfl) | ((with_reducible refine withV_goal ?_); refine withV_mk rfl ?_) | ((with_reducible refine hsel_goal ?_); (first | (exact hsel.nil) | (refine hsel.take (HB.like.refl _) (.inr fun _ h => h) ?_) | (refine hsel.take (like_cts ?_) (.inl rfl) ?_) | (refine hsel.skip (spare_own rfl rfl) ?_) | (refine hsel.skip spare_ro ?_))) | (refine And.intro ?_ ?_) | (intro hq; (try simp only [BF.H, Cel.eta, Rul.eta, Grd.eta, if_true, if_false] at hq); (try (exfalso; first | omega | (simp [BF.b] at hq; done)))))
      all_goals (try simp only [Cel.eta, Rul.eta, Grd.eta, if_true, if_false])
      all_goals (first | (with_reducible rfl) | (with_reducible exact trivial) | (with_reducible exact splitN_zero) | ((with_reducible refine fsub_goal ?_); exact trivial) | (with_reducible assumption) | ((with_reducible refine ble_goal ?_); rfl) | ((with_reducible refine ble2_goal ?_); (first | rfl | kernel_rfl)) | ((with_reducible refine beq_goal ?_); rfl) | omega | skip)
      all_goals (first | (simp [Cel.eta, Rul.eta, Grd.eta, den, denL, den_ofConst, BF.b, bfOf, Cel.sv, Rul.sv]; done) | (simp [Cel.eta, Rul.eta, Grd.eta, den, denL, den_ofConst, BF.b, bfOf, Cel.sv, Rul.sv]; omega) | (simp [Cel.eta, Rul.eta, Grd.eta, den, denL, den_ofConst, BF.b, bfOf, Cel.sv, Rul.sv]; (repeat' split) <;> omega) | (simp [Cel.eta, Rul.eta, Grd.eta, den, denL, den_ofConst, BF.b, bfOf, Cel.sv, Rul.sv]; rw [Bool.eq_iff_iff]; (repeat' split) <;> simp <;> omega) | (simp [Cel.eta, Rul.eta, Grd.eta, den, denL, den_ofConst, BF.b, bfOf, Cel.sv, Rul.sv, *]; done) | (simp [Cel.eta, Rul.eta, Grd.eta, den, denL, den_ofConst, BF.b, bfOf, Cel.sv, Rul.sv, *]; omega))
    · exact hK.elim
def G24 : List (Nat × Ctr) := (128, c_refD_within) :: G23
theorem okG24 : GsOk Try.prog G24 := GsOk.cons k_refD_within okG23
def c_refD_least : Ctr := fun args _ K => match args with
  | [x0, x1] => i1 x0 fun a => i1 x1 fun b => K (.int .i64 (min a b))
  | _ => False
noncomputable def X_refD_least : Env Try.prog := ⟨Try.f153.ntmps, TT, G24, E0, Try.f153.results.toList, [], TT_ok, okG24, okE0, mixed⟩
theorem k_refD_least : COk Try.prog 153 c_refD_least :=
  ctr_of_wk X_refD_least Try.func153 rfl (by kernel_rfl) rfl rfl fun args hp K hK => by
    unfold c_refD_least at hK
    split at hK
    · obtain ⟨a, hK1, e0⟩ := iff_i1 hK; clear hK; have hK := hK1; clear hK1
      obtain ⟨b, hK1, e1⟩ := iff_i1 hK; clear hK; have hK := hK1; clear hK1
      refine ⟨[.int .i64 a, .int .i64 b], [], _, denL_cons (e0.symm) (denL_cons (e1.symm) (rfl)), trivial, fun _ _ b hb => (by cases hb), hK, Nat.le_of_ble_eq_true rfl, ?_⟩
      clear hK
      repeat' (first | (refine Wk.op ?_; intro K' hK') | (refine Wk.xqOp ?_; intro K' hK') | (refine Wk.rgOne ?_; intro K' hK') | (refine Wk.rgPure ?_; intro K' hK') | (refine Wk.rgX ?_; intro K' hK') | (refine Wk.xqNew ?_; intro K' hK') | (refine Wk.xqEnd ?_) | (refine Wk.rgDone ?_) | (refine Wk.rgTwo ?_ ?_ <;> intro K' hK') | (refine Wk.rgH ?_ ?_) | (refine Wk.rsTake ?_; intro K' hK') | (refine Wk.rsOne ?_ (fun K' hK' => ?_)) | (refine Wk.rsTwo ?_ ?_ (fun K' hK' => ?_) (fun K' hK' => ?_)) | (refine Wk.rsDone ?_) | (refine hK' _ _ ?_ ?_ <;> clear hK' K') | (refine hK' _ _ ?_; clear hK' K') | (refine hK' _ ?_; clear hK' K') | (refine hKT _ ?_; clear hKT hKF KT KF) | (refine hKF _ ?_; clear hKT hKF KT KF) | (refine Wk.cond ?_; intro KT KF hKT hKF) | (refine Wk.ret ?_) | (refine Wk.draw ?_ ?_ ?_; rotate_left 2; (intro K' hK')) | (refine Wk.step rfl ?_) | (refine Wk.done ?_) | (refine Fin.plain trivial ?_) | ((with_reducible refine top_goal ?_); kernel_rfl) | ((with_reducible refine takes_goal ?_); kernel_rfl) | ((with_reducible refine drop_goal ?_); kernel_rfl) | ((with_reducible refine held_goal ?_); (repeat refine And.intro rfl ?_); exact trivial) | ((with_reducible refine allB_goal ?_); kernel_rfl) | ((with_reducible refine mine_goal ?_); exact mine_of rfl) | ((with_reducible refine withV_goal ?_); refine withV_mk rfl ?_) | ((with_reducible refine hsel_goal ?_); (first | (exact hsel.nil) | (refine hsel.take (HB.like.refl _) (.inr fun _ h => h) ?_) | (refine hsel.take (like_cts ?_) (.inl rfl) ?_) | (refine hsel.skip (spare_own rfl rfl) ?_) | (refine hsel.skip spare_ro ?_))) | (refine And.intro ?_ ?_) | (intro hq; (try simp only [BF.H, Cel.eta, Rul.eta, Grd.eta, if_true, if_false] at hq); (try (exfalso; first | omega | (simp [BF.b] at hq; done)))))
      all_goals (try simp only [Cel.eta, Rul.eta, Grd.eta, if_true, if_false])
      all_goals (first | (with_reducible rfl) | (with_reducible exact trivial) | (with_reducible exact splitN_zero) | ((with_reducible refine fsub_goal ?_); exact trivial) | (with_reducible assumption) | ((with_reducible refine ble_goal ?_); rfl) | ((with_reducible refine ble2_goal ?_); (first | rfl | kernel_rfl)) | ((with_reducible refine beq_goal ?_); rfl) | omega | skip)
      all_goals (first | (simp [Cel.eta, Rul.eta, Grd.eta, den, denL, den_ofConst, BF.b, bfOf, Cel.sv, Rul.sv]; done) | (simp [Cel.eta, Rul.eta, Grd.eta, den, denL, den_ofConst, BF.b, bfOf, Cel.sv, Rul.sv]; omega) | (simp [Cel.eta, Rul.eta, Grd.eta, den, denL, den_ofConst, BF.b, bfOf, Cel.sv, Rul.sv]; (repeat' split) <;> omega) | (simp [Cel.eta, Rul.eta, Grd.eta, den, denL, den_ofConst, BF.b, bfOf, Cel.sv, Rul.sv]; rw [Bool.eq_iff_iff]; (repeat' split) <;> simp <;> omega) | (simp [Cel.eta, Rul.eta, Grd.eta, den, denL, den_ofConst, BF.b, bfOf, Cel.sv, Rul.sv, *]; done) | (simp [Cel.eta, Rul.eta, Grd.eta, den, denL, den_ofConst, BF.b, bfOf, Cel.sv, Rul.sv, *]; omega))
    · exact hK.elim
def G25 : List (Nat × Ctr) := (153, c_refD_least) :: G24
theorem okG25 : GsOk Try.prog G25 := GsOk.cons k_refD_least okG24
def c_refB_Opposite : Ctr := fun args _ K => match args with
  | [x0] => i1 x0 fun k => (k = 0 ∨ k = 1) ∧ K (.int .i64 (k + 2))
  | _ => False
noncomputable def X_refB_Opposite : Env Try.prog := ⟨Try.f152.ntmps, TT, G25, E0, Try.f152.results.toList, [], TT_ok, okG25, okE0, mixed⟩
theorem k_refB_Opposite : COk Try.prog 152 c_refB_Opposite :=
  ctr_of_wk X_refB_Opposite Try.func152 rfl (by kernel_rfl) rfl rfl fun args hp K hK => by
    unfold c_refB_Opposite at hK
    split at hK
    · obtain ⟨k, hK1, e0⟩ := iff_i1 hK; clear hK; have hK := hK1; clear hK1
      obtain ⟨hpre, hK⟩ := hK
      have ht : (k + 2).tmod 4 = k + 2 := by rcases hpre with rfl | rfl <;> rfl
      refine ⟨[.int .i64 k], [], _, denL_cons (e0.symm) (rfl), trivial, fun _ _ b hb => (by cases hb), hK, Nat.le_of_ble_eq_true rfl, ?_⟩
      clear hK
      repeat' (first | (refine Wk.op ?_; intro K' hK') | (refine Wk.xqOp ?_; intro K' hK') | (refine Wk.rgOne ?_; intro K' hK') | (refine Wk.rgPure ?_; intro K' hK') | (refine Wk.rgX ?_; intro K' hK') | (refine Wk.xqNew ?_; intro K' hK') | (refine Wk.xqEnd ?_) | (refine Wk.rgDone ?_) | (refine Wk.rgTwo ?_ ?_ <;> intro K' hK') | (refine Wk.rgH ?_ ?_) | (refine Wk.rsTake ?_; intro K' hK') | (refine Wk.rsOne ?_ (fun K' hK' => ?_)) | (refine Wk.rsTwo ?_ ?_ (fun K' hK' => ?_) (fun K' hK' => ?_)) | (refine Wk.rsDone ?_) | (refine hK' _ _ ?_ ?_ <;> clear hK' K') | (refine hK' _ _ ?_; clear hK' K') | (refine hK' _ ?_; clear hK' K') | (refine hKT _ ?_; clear hKT hKF KT KF) | (refine hKF _ ?_; clear hKT hKF KT KF) | (refine Wk.cond ?_; intro KT KF hKT hKF) | (refine Wk.ret ?_) | (refine Wk.draw ?_ ?_ ?_; rotate_left 2; (intro K' hK')) | (refine Wk.step rfl ?_) | (refine Wk.done ?_) | (refine Fin.plain trivial ?_) | ((with_reducible refine top_goal ?_); kernel_rfl) | ((with_reducible refine takes_goal ?_); kernel_rfl) | ((with_reducible refine drop_goal ?_); kernel_rfl) | ((with_reducible refine held_goal ?_); (repeat refine And.intro rfl ?_); exact trivial) | ((with_reducible refine allB_goal ?_); kernel_rfl) | ((with_reducible refine mine_goal ?_); exact mine_of rfl) | ((with_reducible refine withV_goal ?_); refine withV_mk rfl ?_) | ((with_reducible refine hsel_goal ?_); (first | (exact hsel.nil) | (refine hsel.take (HB.like.refl _) (.inr fun _ h => h) ?_) | (refine hsel.take (like_cts ?_) (.inl rfl) ?_) | (refine hsel.skip (spare_own rfl rfl) ?_) | (refine hsel.skip spare_ro ?_))) | (refine And.intro ?_ ?_) | (intro hq; (try simp only [BF.H, Cel.eta, Rul.eta, Grd.eta, if_true, if_false] at hq); (try (exfalso; first | omega | (simp [BF.b] at hq; done)))))
      all_goals (try simp only [Cel.eta, Rul.eta, Grd.eta, if_true, if_false])
      all_goals (first | (with_reducible rfl) | (with_reducible exact trivial) | (with_reducible exact splitN_zero) | ((with_reducible refine fsub_goal ?_); exact trivial) | (with_reducible assumption) | ((with_reducible refine ble_goal ?_); rfl) | ((with_reducible refine ble2_goal ?_); (first | rfl | kernel_rfl)) | ((with_reducible refine beq_goal ?_); rfl) | omega | skip)
      all_goals (first | (simp only [ht]; done) | (simp only [ht]; omega) | (simp only [ht]; rfl) | omega)
    · exact hK.elim
def G26 : List (Nat × Ctr) := (152, c_refB_Opposite) :: G25
theorem okG26 : GsOk Try.prog G26 := GsOk.cons k_refB_Opposite okG25
def c_refD_exchanged : Ctr := fun args _ K => match args with
  | [x0, x1, x2, x3] => c1 x0 fun a => c1 x1 fun b => r1 x2 fun r => i1 x3 fun k => (a.ok = true ∧ b.ok = true ∧ r.ok = true ∧ (k = 0 ∨ k = 1) ∧ (a.add b).ok = true) ∧ K (.tup [Cel.sv (xchA a b r k), Cel.sv (xchB a b r k)])
  | _ => False
noncomputable def X_refD_exchanged : Env Try.prog := ⟨Try.f129.ntmps, TT, G26, E0, Try.f129.results.toList, [(2, .x [0, 1, 2, 3, 4, 5, 6, 7, 8, 9, 10, 11, 12, 13, 14, 15] [] (.done)), (4, .h [0, 1, 2, 3, 4, 5, 6, 7, 8, 9, 10, 11, 12, 14] (.pure 0 (.pure 1 (.pure 2 (.pure 3 (.pure 4 (.pure 5 (.pure 6 (.pure 7 (.pure 8 (.pure 9 (.pure 10 (.pure 11 (.pure 12 (.s1 13 [4] (.pure 14 (.s1 15 [9] (.done)))))))))))))))))), (5, .h [0, 1, 2, 3, 4, 5, 6, 7, 8, 9, 10, 11, 12, 14] (.pure 0 (.pure 1 (.pure 2 (.pure 3 (.pure 4 (.pure 5 (.pure 6 (.pure 7 (.pure 8 (.pure 9 (.pure 10 (.pure 11 (.pure 12 (.s1 13 [4] (.pure 14 (.s1 15 [9] (.done)))))))))))))))))), (6, .h [0, 1] (.pure 0 (.pure 1 (.s1 2 [0] (.s1 3 [1] (.done))))))], TT_ok, okG26, okE0, mixed⟩
set_option maxHeartbeats 4000000 in
theorem k_refD_exchanged : COk Try.prog 129 c_refD_exchanged :=
  ctr_of_wk X_refD_exchanged Try.func129 rfl (by kernel_rfl) rfl rfl fun args hp K hK => by
    unfold c_refD_exchanged at hK
    split at hK
    · obtain ⟨a, hK1, e0⟩ := iff_c1 hK; clear hK; have hK := hK1; clear hK1
      obtain ⟨b, hK1, e1⟩ := iff_c1 hK; clear hK; have hK := hK1; clear hK1
      obtain ⟨r, hK1, e2⟩ := iff_r1 hK; clear hK; have hK := hK1; clear hK1
      obtain ⟨k, hK1, e3⟩ := iff_i1 hK; clear hK; have hK := hK1; clear hK1
      obtain ⟨hpre, hK⟩ := hK
      obtain ⟨ha, hb, hr, hk, hs⟩ := hpre
      have hm0 := meet_ok (k := 0) ha hb hs
      have hm1 := meet_ok (k := 1) ha hb hs
      have t0 := Cel.turn_range hm0 hr
      have t1 := Cel.turn_range hm1 hr
      simp [meetC, Cel.h, Cel.v] at hm0 hm1 t0 t1
      have fa := Cel.ok_iff.1 ha
      have fb := Cel.ok_iff.1 hb
      have fs := Cel.ok_iff.1 hs
      simp only [Cel.add] at fs
      refine ⟨[Cel.sv a, Cel.sv b, Rul.sv r, .int .i64 k], [], _, denL_cons (e0.symm) (denL_cons (e1.symm) (denL_cons (e2.symm) (denL_cons (e3.symm) (rfl)))), trivial, fun _ _ b hb => (by cases hb), hK, Nat.le_of_ble_eq_true rfl, ?_⟩
      clear hK
      rcases hk with rfl | rfl
      all_goals (repeat' (first | (refine Wk.op ?_; intro K' hK') | (refine Wk.xqOp ?_; intro K' hK') | (refine Wk.rgOne ?_; intro K' hK') | (refine Wk.rgPure ?_; intro K' hK') | (refine Wk.rgX ?_; intro K' hK') | (refine Wk.xqNew ?_; intro K' hK') | (refine Wk.xqEnd ?_) | (refine Wk.rgDone ?_) | (refine Wk.rgTwo ?_ ?_ <;> intro K' hK') | (refine Wk.rgH ?_ ?_) | (refine Wk.rsTake ?_; intro K' hK') | (refine Wk.rsOne ?_ (fun K' hK' => ?_)) | (refine Wk.rsTwo ?_ ?_ (fun K' hK' => ?_) (fun K' hK' => ?_)) | (refine Wk.rsDone ?_) | (refine hK' _ _ ?_ ?_ <;> clear hK' K') | (refine hK' _ _ ?_; clear hK' K') | (refine hK' _ ?_; clear hK' K') | (refine hKT _ ?_; clear hKT hKF KT KF) | (refine hKF _ ?_; clear hKT hKF KT KF) | (refine Wk.cond ?_; intro KT KF hKT hKF) | (refine Wk.ret ?_) | (refine Wk.draw ?_ ?_ ?_; rotate_left 2; (intro K' hK')) | (refine Wk.step rfl ?_) | (refine Wk.done ?_) | (refine Fin.plain trivial ?_) | ((with_reducible refine top_goal ?_); kernel_rfl) | ((with_reducible refine takes_goal ?_); kernel_rfl) | ((with_reducible refine drop_goal ?_); kernel_rfl) | ((with_reducible refine held_goal ?_); (repeat refine And.intro rfl ?_); exact trivial) | ((with_reducible refine allB_goal ?_); kernel_rfl) | ((with_reducible refine mine_goal ?_); exact mine_of rfl) | ((with_reducible refine withV_goal ?_); refine withV_mk rfl ?_) | ((with_reducible refine hsel_goal ?_); (first | (exact hsel.nil) | (refine hsel.take (HB.like.refl _) (.inr fun _ h => h) ?_) | (refine hsel.take (like_cts ?_) (.inl rfl) ?_) | (refine hsel.skip (spare_own rfl rfl) ?_) | (refine hsel.skip spare_ro ?_))) | (refine And.intro ?_ ?_) | (intro hq; (try simp only [BF.H, Cel.eta, Rul.eta, Grd.eta, if_true, if_false] at hq); (try (exfalso; first | omega | (simp [BF.b] at hq; done))))))
      all_goals (try simp only [Cel.eta, Rul.eta, Grd.eta, if_true, if_false])
      all_goals (first | (with_reducible rfl) | (with_reducible exact trivial) | (with_reducible exact splitN_zero) | ((with_reducible refine fsub_goal ?_); exact trivial) | (with_reducible assumption) | ((with_reducible refine ble_goal ?_); rfl) | ((with_reducible refine ble2_goal ?_); (first | rfl | kernel_rfl)) | ((with_reducible refine beq_goal ?_); rfl) | omega | skip)
      all_goals (first | rfl | omega | exact .inr trivial | exact .inl rfl | (simp [Cel.eta, Rul.eta, Grd.eta, den, denL, den_ofConst, BF.b, bfOf, Cel.sv, Rul.sv, xchA, xchB, backA, backB, meetC, Cel.after, Cel.placed, Cel.h, Cel.v]; done) | (simp [Cel.eta, Rul.eta, Grd.eta, den, denL, den_ofConst, BF.b, bfOf, Cel.sv, Rul.sv, xchA, xchB, backA, backB, meetC, Cel.after, Cel.placed, Cel.h, Cel.v] <;> omega))
    · exact hK.elim
def G27 : List (Nat × Ctr) := (129, c_refD_exchanged) :: G26
theorem okG27 : GsOk Try.prog G27 := GsOk.cons k_refD_exchanged okG26
def c_refD_exchange : Ctr := fun args _ K => match args with
  | [x0, x1, x2, x3, x4] => c1 x0 fun a => c1 x1 fun b => r1 x2 fun r => i1 x3 fun k => b1 x4 fun un => K (.tup [Cel.sv (xcA a b (if un then r.inv else r) k), Cel.sv (xcB a b (if un then r.inv else r) k), .int .i64 (xcE a b (if un then r.inv else r) k)])
  | _ => False
noncomputable def X_refD_exchange : Env Try.prog := ⟨Try.f99.ntmps, TT, G27, E0, Try.f99.results.toList, [(10, .h [0, 1, 4] (.pure 0 (.pure 1 (.s1 2 [0] (.s1 3 [1] (.pure 4 (.done)))))))], TT_ok, okG27, okE0, mixed⟩
set_option maxHeartbeats 4000000 in
theorem k_refD_exchange : COk Try.prog 99 c_refD_exchange :=
  ctr_of_wk X_refD_exchange Try.func99 rfl (by kernel_rfl) rfl rfl fun args hp K hK => by
    unfold c_refD_exchange at hK
    split at hK
    · obtain ⟨a, hK1, e0⟩ := iff_c1 hK; clear hK; have hK := hK1; clear hK1
      obtain ⟨b, hK1, e1⟩ := iff_c1 hK; clear hK; have hK := hK1; clear hK1
      obtain ⟨r, hK1, e2⟩ := iff_r1 hK; clear hK; have hK := hK1; clear hK1
      obtain ⟨k, hK1, e3⟩ := iff_i1 hK; clear hK; have hK := hK1; clear hK1
      obtain ⟨un, hK1, e4⟩ := iff_b1 hK; clear hK; have hK := hK1; clear hK1
      refine ⟨[Cel.sv a, Cel.sv b, Rul.sv r, .int .i64 k, .bool (.atom un)], [], _, denL_cons (e0.symm) (denL_cons (e1.symm) (denL_cons (e2.symm) (denL_cons (e3.symm) (denL_cons (e4.symm) (rfl))))), trivial, fun _ _ b hb => (by cases hb), hK, Nat.le_of_ble_eq_true rfl, ?_⟩
      clear hK
      cases un <;> rcases Decidable.em (k = 0 ∨ k = 1) with hkk | hkk
      all_goals (repeat' (first | (refine Wk.op ?_; intro K' hK') | (refine Wk.xqOp ?_; intro K' hK') | (refine Wk.rgOne ?_; intro K' hK') | (refine Wk.rgPure ?_; intro K' hK') | (refine Wk.rgX ?_; intro K' hK') | (refine Wk.xqNew ?_; intro K' hK') | (refine Wk.xqEnd ?_) | (refine Wk.rgDone ?_) | (refine Wk.rgTwo ?_ ?_ <;> intro K' hK') | (refine Wk.rgH ?_ ?_) | (refine Wk.rsTake ?_; intro K' hK') | (refine Wk.rsOne ?_ (fun K' hK' => ?_)) | (refine Wk.rsTwo ?_ ?_ (fun K' hK' => ?_) (fun K' hK' => ?_)) | (refine Wk.rsDone ?_) | (refine hK' _ _ ?_ ?_ <;> clear hK' K') | (refine hK' _ _ ?_; clear hK' K') | (refine hK' _ ?_; clear hK' K') | (refine hKT _ ?_; clear hKT hKF KT KF) | (refine hKF _ ?_; clear hKT hKF KT KF) | (refine Wk.cond ?_; intro KT KF hKT hKF) | (refine Wk.ret ?_) | (refine Wk.draw ?_ ?_ ?_; rotate_left 2; (intro K' hK')) | (refine Wk.step rfl ?_) | (refine Wk.done ?_) | (refine Fin.plain trivial ?_) | ((with_reducible refine top_goal ?_); kernel_rfl) | ((with_reducible refine takes_goal ?_); kernel_rfl) | ((with_reducible refine drop_goal ?_); kernel_rfl) | ((with_reducible refine held_goal ?_); (repeat refine And.intro rfl ?_); exact trivial) | ((with_reducible refine allB_goal ?_); kernel_rfl) | ((with_reducible refine mine_goal ?_); exact mine_of rfl) | ((with_reducible refine withV_goal ?_); refine withV_mk rfl ?_) | ((with_reducible refine hsel_goal ?_); (first | (exact hsel.nil) | (refine hsel.take (HB.like.refl _) (.inr fun _ h => h) ?_) | (refine hsel.take (like_cts ?_) (.inl rfl) ?_) | (refine hsel.skip (spare_own rfl rfl) ?_) | (refine hsel.skip spare_ro ?_))) | (refine And.intro ?_ ?_) | (intro hq; (try simp only [BF.H, Cel.eta, Rul.eta, Grd.eta, if_true, if_false] at hq); (try (exfalso; first | omega | (simp [BF.b] at hq; done))))))
      all_goals (try simp only [Cel.eta, Rul.eta, Grd.eta, if_true, if_false])
      all_goals (first | (with_reducible rfl) | (with_reducible exact trivial) | (with_reducible exact splitN_zero) | ((with_reducible refine fsub_goal ?_); exact trivial) | (with_reducible assumption) | ((with_reducible refine ble_goal ?_); rfl) | ((with_reducible refine ble2_goal ?_); (first | rfl | kernel_rfl)) | ((with_reducible refine beq_goal ?_); rfl) | omega | skip)
      all_goals (first | assumption | (simp [Cel.eta, Rul.eta, Grd.eta, den, denL, den_ofConst, BF.b, bfOf, Cel.sv, Rul.sv, xcA, xcB, xcE, Cel.zero, rul_inv_ok]; done) | (simp [Cel.eta, Rul.eta, Grd.eta, den, denL, den_ofConst, BF.b, bfOf, Cel.sv, Rul.sv, xcA, xcB, xcE, Cel.zero, rul_inv_ok, *]; done) | (have hkk : k = 0 ∨ k = 1 := (by omega); simp [Cel.eta, Rul.eta, Grd.eta, den, denL, den_ofConst, BF.b, bfOf, Cel.sv, Rul.sv, xcA, xcB, xcE, Cel.zero, rul_inv_ok, *]; done) | (have hkk : ¬ (k = 0 ∨ k = 1) := (by omega); simp [Cel.eta, Rul.eta, Grd.eta, den, denL, den_ofConst, BF.b, bfOf, Cel.sv, Rul.sv, xcA, xcB, xcE, Cel.zero, rul_inv_ok, *]; done))
    · exact hK.elim
def G28 : List (Nat × Ctr) := (99, c_refD_exchange) :: G27
theorem okG28 : GsOk Try.prog G28 := GsOk.cons k_refD_exchange okG27
def c_refD_Exchange : Ctr := fun args _ K => match args with
  | [x0, x1, x2, x3] => c1 x0 fun a => c1 x1 fun b => r1 x2 fun r => i1 x3 fun k => K (.tup [Cel.sv (xcA a b r k), Cel.sv (xcB a b r k), .int .i64 (xcE a b r k)])
  | _ => False
noncomputable def X_refD_Exchange : Env Try.prog := ⟨Try.f55.ntmps, TT, G28, E0, Try.f55.results.toList, [], TT_ok, okG28, okE0, mixed⟩
theorem k_refD_Exchange : COk Try.prog 55 c_refD_Exchange :=
  ctr_of_wk X_refD_Exchange Try.func55 rfl (by kernel_rfl) rfl rfl fun args hp K hK => by
    unfold c_refD_Exchange at hK
    split at hK
    · obtain ⟨a, hK1, e0⟩ := iff_c1 hK; clear hK; have hK := hK1; clear hK1
      obtain ⟨b, hK1, e1⟩ := iff_c1 hK; clear hK; have hK := hK1; clear hK1
      obtain ⟨r, hK1, e2⟩ := iff_r1 hK; clear hK; have hK := hK1; clear hK1
      obtain ⟨k, hK1, e3⟩ := iff_i1 hK; clear hK; have hK := hK1; clear hK1
      refine ⟨[Cel.sv a, Cel.sv b, Rul.sv r, .int .i64 k], [], _, denL_cons (e0.symm) (denL_cons (e1.symm) (denL_cons (e2.symm) (denL_cons (e3.symm) (rfl)))), trivial, fun _ _ b hb => (by cases hb), hK, Nat.le_of_ble_eq_true rfl, ?_⟩
      clear hK
      repeat' (first | (refine Wk.op ?_; intro K' hK') | (refine Wk.xqOp ?_; intro K' hK') | (refine Wk.rgOne ?_; intro K' hK') | (refine Wk.rgPure ?_; intro K' hK') | (refine Wk.rgX ?_; intro K' hK') | (refine Wk.xqNew ?_; intro K' hK') | (refine Wk.xqEnd ?_) | (refine Wk.rgDone ?_) | (refine Wk.rgTwo ?_ ?_ <;> intro K' hK') | (refine Wk.rgH ?_ ?_) | (refine Wk.rsTake ?_; intro K' hK') | (refine Wk.rsOne ?_ (fun K' hK' => ?_)) | (refine Wk.rsTwo ?_ ?_ (fun K' hK' => ?_) (fun K' hK' => ?_)) | (refine Wk.rsDone ?_) | (refine hK' _ _ ?_ ?_ <;> clear hK' K') | (refine hK' _ _ ?_; clear hK' K') | (refine hK' _ ?_; clear hK' K') | (refine hKT _ ?_; clear hKT hKF KT KF) | (refine hKF _ ?_; clear hKT hKF KT KF) | (refine Wk.cond ?_; intro KT KF hKT hKF) | (refine Wk.ret ?_) | (refine Wk.draw ?_ ?_ ?_; rotate_left 2; (intro K' hK')) | (refine Wk.step rfl ?_) | (refine Wk.done ?_) | (refine Fin.plain trivial ?_) | ((with_reducible refine top_goal ?_); kernel_rfl) | ((with_reducible refine takes_goal ?_); kernel_rfl) | ((with_reducible refine drop_goal ?_); kernel_rfl) | ((with_reducible refine held_goal ?_); (repeat refine And.intro rfl ?_); exact trivial) | ((with_reducible refine allB_goal ?_); kernel_rfl) | ((with_reducible refine mine_goal ?_); exact mine_of rfl) | ((with_reducible refine withV_goal ?_); refine withV_mk rfl ?_) | ((with_reducible refine hsel_goal ?_); (first | (exact hsel.nil) | (refine hsel.take (HB.like.refl _) (.inr fun _ h => h) ?_) | (refine hsel.take (like_cts ?_) (.inl rfl) ?_) | (refine hsel.skip (spare_own rfl rfl) ?_) | (refine hsel.skip spare_ro ?_))) | (refine And.intro ?_ ?_) | (intro hq; (try simp only [BF.H, Cel.eta, Rul.eta, Grd.eta, if_true, if_false] at hq); (try (exfalso; first | omega | (simp [BF.b] at hq; done)))))
      all_goals (try simp only [Cel.eta, Rul.eta, Grd.eta, if_true, if_false])
      all_goals (first | (with_reducible rfl) | (with_reducible exact trivial) | (with_reducible exact splitN_zero) | ((with_reducible refine fsub_goal ?_); exact trivial) | (with_reducible assumption) | ((with_reducible refine ble_goal ?_); rfl) | ((with_reducible refine ble2_goal ?_); (first | rfl | kernel_rfl)) | ((with_reducible refine beq_goal ?_); rfl) | omega | skip)
      all_goals (first | (simp [Cel.eta, Rul.eta, Grd.eta, den, denL, den_ofConst, BF.b, bfOf, Cel.sv, Rul.sv]; done) | (simp [Cel.eta, Rul.eta, Grd.eta, den, denL, den_ofConst, BF.b, bfOf, Cel.sv, Rul.sv]; omega) | (simp [Cel.eta, Rul.eta, Grd.eta, den, denL, den_ofConst, BF.b, bfOf, Cel.sv, Rul.sv]; (repeat' split) <;> omega) | (simp [Cel.eta, Rul.eta, Grd.eta, den, denL, den_ofConst, BF.b, bfOf, Cel.sv, Rul.sv]; rw [Bool.eq_iff_iff]; (repeat' split) <;> simp <;> omega) | (simp [Cel.eta, Rul.eta, Grd.eta, den, denL, den_ofConst, BF.b, bfOf, Cel.sv, Rul.sv, *]; done) | (simp [Cel.eta, Rul.eta, Grd.eta, den, denL, den_ofConst, BF.b, bfOf, Cel.sv, Rul.sv, *]; omega))
    · exact hK.elim
def G29 : List (Nat × Ctr) := (55, c_refD_Exchange) :: G28
theorem okG29 : GsOk Try.prog G29 := GsOk.cons k_refD_Exchange okG28
def c_refD_Unexchange : Ctr := fun args _ K => match args with
  | [x0, x1, x2, x3] => c1 x0 fun a => c1 x1 fun b => r1 x2 fun r => i1 x3 fun k => K (.tup [Cel.sv (xcA a b r.inv k), Cel.sv (xcB a b r.inv k), .int .i64 (xcE a b r.inv k)])
  | _ => False
noncomputable def X_refD_Unexchange : Env Try.prog := ⟨Try.f57.ntmps, TT, G29, E0, Try.f57.results.toList, [], TT_ok, okG29, okE0, mixed⟩
theorem k_refD_Unexchange : COk Try.prog 57 c_refD_Unexchange :=
  ctr_of_wk X_refD_Unexchange Try.func57 rfl (by kernel_rfl) rfl rfl fun args hp K hK => by
    unfold c_refD_Unexchange at hK
    split at hK
    · obtain ⟨a, hK1, e0⟩ := iff_c1 hK; clear hK; have hK := hK1; clear hK1
      obtain ⟨b, hK1, e1⟩ := iff_c1 hK; clear hK; have hK := hK1; clear hK1
      obtain ⟨r, hK1, e2⟩ := iff_r1 hK; clear hK; have hK := hK1; clear hK1
      obtain ⟨k, hK1, e3⟩ := iff_i1 hK; clear hK; have hK := hK1; clear hK1
      refine ⟨[Cel.sv a, Cel.sv b, Rul.sv r, .int .i64 k], [], _, denL_cons (e0.symm) (denL_cons (e1.symm) (denL_cons (e2.symm) (denL_cons (e3.symm) (rfl)))), trivial, fun _ _ b hb => (by cases hb), hK, Nat.le_of_ble_eq_true rfl, ?_⟩
      clear hK
      repeat' (first | (refine Wk.op ?_; intro K' hK') | (refine Wk.xqOp ?_; intro K' hK') | (refine Wk.rgOne ?_; intro K' hK') | (refine Wk.rgPure ?_; intro K' hK') | (refine Wk.rgX ?_; intro K' hK') | (refine Wk.xqNew ?_; intro K' hK') | (refine Wk.xqEnd ?_) | (refine Wk.rgDone ?_) | (refine Wk.rgTwo ?_ ?_ <;> intro K' hK') | (refine Wk.rgH ?_ ?_) | (refine Wk.rsTake ?_; intro K' hK') | (refine Wk.rsOne ?_ (fun K' hK' => ?_)) | (refine Wk.rsTwo ?_ ?_ (fun K' hK' => ?_) (fun K' hK' => ?_)) | (refine Wk.rsDone ?_) | (refine hK' _ _ ?_ ?_ <;> clear hK' K') | (refine hK' _ _ ?_; clear hK' K') | (refine hK' _ ?_; clear hK' K') | (refine hKT _ ?_; clear hKT hKF KT KF) | (refine hKF _ ?_; clear hKT hKF KT KF) | (refine Wk.cond ?_; intro KT KF hKT hKF) | (refine Wk.ret ?_) | (refine Wk.draw ?_ ?_ ?_; rotate_left 2; (intro K' hK')) | (refine Wk.step rfl ?_) | (refine Wk.done ?_) | (refine Fin.plain trivial ?_) | ((with_reducible refine top_goal ?_); kernel_rfl) | ((with_reducible refine takes_goal ?_); kernel_rfl) | ((with_reducible refine drop_goal ?_); kernel_rfl) | ((with_reducible refine held_goal ?_); (repeat refine And.intro rfl ?_); exact trivial) | ((with_reducible refine allB_goal ?_); kernel_rfl) | ((with_reducible refine mine_goal ?_); exact mine_of rfl) | ((with_reducible refine withV_goal ?_); refine withV_mk rfl ?_) | ((with_reducible refine hsel_goal ?_); (first | (exact hsel.nil) | (refine hsel.take (HB.like.refl _) (.inr fun _ h => h) ?_) | (refine hsel.take (like_cts ?_) (.inl rfl) ?_) | (refine hsel.skip (spare_own rfl rfl) ?_) | (refine hsel.skip spare_ro ?_))) | (refine And.intro ?_ ?_) | (intro hq; (try simp only [BF.H, Cel.eta, Rul.eta, Grd.eta, if_true, if_false] at hq); (try (exfalso; first | omega | (simp [BF.b] at hq; done)))))
      all_goals (try simp only [Cel.eta, Rul.eta, Grd.eta, if_true, if_false])
      all_goals (first | (with_reducible rfl) | (with_reducible exact trivial) | (with_reducible exact splitN_zero) | ((with_reducible refine fsub_goal ?_); exact trivial) | (with_reducible assumption) | ((with_reducible refine ble_goal ?_); rfl) | ((with_reducible refine ble2_goal ?_); (first | rfl | kernel_rfl)) | ((with_reducible refine beq_goal ?_); rfl) | omega | skip)
      all_goals (first | (simp [Cel.eta, Rul.eta, Grd.eta, den, denL, den_ofConst, BF.b, bfOf, Cel.sv, Rul.sv]; done) | (simp [Cel.eta, Rul.eta, Grd.eta, den, denL, den_ofConst, BF.b, bfOf, Cel.sv, Rul.sv]; omega) | (simp [Cel.eta, Rul.eta, Grd.eta, den, denL, den_ofConst, BF.b, bfOf, Cel.sv, Rul.sv]; (repeat' split) <;> omega) | (simp [Cel.eta, Rul.eta, Grd.eta, den, denL, den_ofConst, BF.b, bfOf, Cel.sv, Rul.sv]; rw [Bool.eq_iff_iff]; (repeat' split) <;> simp <;> omega) | (simp [Cel.eta, Rul.eta, Grd.eta, den, denL, den_ofConst, BF.b, bfOf, Cel.sv, Rul.sv, *]; done) | (simp [Cel.eta, Rul.eta, Grd.eta, den, denL, den_ofConst, BF.b, bfOf, Cel.sv, Rul.sv, *]; omega))
    · exact hK.elim
def G30 : List (Nat × Ctr) := (57, c_refD_Unexchange) :: G29
theorem okG30 : GsOk Try.prog G30 := GsOk.cons k_refD_Unexchange okG29
noncomputable def X_phase_pair_meeting_1 : Env Try.prog := ⟨Try.f160.ntmps, TT, G30, E0, Try.f160.results.toList, [(1, .h [0, 1, 2, 3, 4, 5, 6, 7, 8, 9, 10, 11, 12, 13, 15, 16, 18, 19, 21, 22] (.pure 0 (.pure 1 (.pure 2 (.pure 3 (.pure 4 (.pure 5 (.pure 6 (.pure 7 (.pure 8 (.pure 9 (.pure 10 (.pure 11 (.pure 12 (.pure 13 (.pure 15 (.pure 18 (.pure 21 (.s1 14 [0, 5] (.pure 16 (.s1 17 [1, 7] (.pure 19 (.s1 20 [2, 9] (.pure 22 (.s1 23 [3, 11] (.done))))))))))))))))))))))))))], TT_ok, okG30, okE0, mixed⟩
noncomputable def code_phase_pair_meeting_1 : Code := match Try.f160.body with | some c => c | none => .skip
theorem k_phase_pair_meeting_1 : EOk Try.prog 160 (inl X_phase_pair_meeting_1 code_phase_pair_meeting_1) := inl_ok X_phase_pair_meeting_1 Try.func160 rfl (by kernel_rfl) rfl rfl
noncomputable def E1 : List (Nat × ECtr) := (160, inl X_phase_pair_meeting_1 code_phase_pair_meeting_1) :: E0
theorem okE1 : EsOk Try.prog E1 := EsOk.cons k_phase_pair_meeting_1 okE0
noncomputable def X_phase_pair_meeting : Env Try.prog := ⟨Try.f151.ntmps, TT, G30, E1, Try.f151.results.toList, [(2, .x [0, 1, 2, 3, 4, 5, 6, 7, 8, 9, 10, 11, 12, 13, 14, 15, 16] [17] (.one 18 (.done)))], TT_ok, okG30, okE1, mixed⟩
noncomputable def code_phase_pair_meeting : Code := match Try.f151.body with | some c => c | none => .skip
theorem k_phase_pair_meeting : EOk Try.prog 151 (inl X_phase_pair_meeting code_phase_pair_meeting) := inl_ok X_phase_pair_meeting Try.func151 rfl (by kernel_rfl) rfl rfl
noncomputable def E2 : List (Nat × ECtr) := (151, inl X_phase_pair_meeting code_phase_pair_meeting) :: E1
theorem okE2 : EsOk Try.prog E2 := EsOk.cons k_phase_pair_meeting okE1
def c_phase_pair_by : Ctr := fun args _ K => match args with
  | [x0, x1, x2, x3] => d1 x0 fun x => f1 x1 fun f => r1 x2 fun r => i1 x3 fun k => ((f = 15 ∨ f = 17) ∧ x.a.ok = true ∧ x.b.ok = true ∧ r.ok = true ∧ (k = 0 ∨ k = 1) ∧ (x.a.add x.b).ok = true) ∧ K (.agg [.int .i64 (xchA x.a x.b (if f = 15 then r else r.inv) k).e, .int .i64 (xchA x.a x.b (if f = 15 then r else r.inv) k).n, .int .i64 (xchA x.a x.b (if f = 15 then r else r.inv) k).w, .int .i64 (xchA x.a x.b (if f = 15 then r else r.inv) k).s, .int .i64 (xchB x.a x.b (if f = 15 then r else r.inv) k).e, .int .i64 (xchB x.a x.b (if f = 15 then r else r.inv) k).n, .int .i64 (xchB x.a x.b (if f = 15 then r else r.inv) k).w, .int .i64 (xchB x.a x.b (if f = 15 then r else r.inv) k).s])
  | _ => False
noncomputable def X_phase_pair_by : Env Try.prog := ⟨Try.f127.ntmps, TT, G30, E2, Try.f127.results.toList, [], TT_ok, okG30, okE2, mixed⟩
set_option maxHeartbeats 4000000 in
theorem k_phase_pair_by : COk Try.prog 127 c_phase_pair_by :=
  ctr_of_wk X_phase_pair_by Try.func127 rfl (by kernel_rfl) rfl rfl fun args hp K hK => by
    unfold c_phase_pair_by at hK
    split at hK
    · obtain ⟨x, hK1, e0⟩ := iff_d1 hK; clear hK; have hK := hK1; clear hK1
      obtain ⟨f, hK1, e1⟩ := iff_f1 hK; clear hK; have hK := hK1; clear hK1
      obtain ⟨r, hK1, e2⟩ := iff_r1 hK; clear hK; have hK := hK1; clear hK1
      obtain ⟨k, hK1, e3⟩ := iff_i1 hK; clear hK; have hK := hK1; clear hK1
      obtain ⟨hpre, hK⟩ := hK
      obtain ⟨hf, ha, hb, hr, hk, hs⟩ := hpre
      have hm0 := meet_ok (k := 0) ha hb hs
      have hm1 := meet_ok (k := 1) ha hb hs
      have t0 := Cel.turn_range hm0 hr
      have t1 := Cel.turn_range hm1 hr
      simp [meetC, Cel.h, Cel.v] at hm0 hm1 t0 t1
      have fa := Cel.ok_iff.1 ha
      have fb := Cel.ok_iff.1 hb
      have fs := Cel.ok_iff.1 hs
      simp only [Cel.add] at fs
      have hri := Rul.inv_ok hr
      refine ⟨[.agg [.int .i64 x.a.e, .int .i64 x.a.n, .int .i64 x.a.w, .int .i64 x.a.s, .int .i64 x.b.e, .int .i64 x.b.n, .int .i64 x.b.w, .int .i64 x.b.s], .fn f [] [], Rul.sv r, .int .i64 k], [], _, denL_cons (e0.symm) (denL_cons (e1.symm) (denL_cons (e2.symm) (denL_cons (e3.symm) (rfl)))), trivial, fun _ _ b hb => (by cases hb), hK, Nat.le_of_ble_eq_true rfl, ?_⟩
      clear hK
      rcases hk with rfl | rfl <;> rcases hf with rfl | rfl
      all_goals (repeat' (first | (refine Wk.op ?_; intro K' hK') | (refine Wk.xqOp ?_; intro K' hK') | (refine Wk.rgOne ?_; intro K' hK') | (refine Wk.rgPure ?_; intro K' hK') | (refine Wk.rgX ?_; intro K' hK') | (refine Wk.xqNew ?_; intro K' hK') | (refine Wk.xqEnd ?_) | (refine Wk.rgDone ?_) | (refine Wk.rgTwo ?_ ?_ <;> intro K' hK') | (refine Wk.rgH ?_ ?_) | (refine Wk.rsTake ?_; intro K' hK') | (refine Wk.rsOne ?_ (fun K' hK' => ?_)) | (refine Wk.rsTwo ?_ ?_ (fun K' hK' => ?_) (fun K' hK' => ?_)) | (refine Wk.rsDone ?_) | (refine hK' _ _ ?_ ?_ <;> clear hK' K') | (refine hK' _ _ ?_; clear hK' K') | (refine hK' _ ?_; clear hK' K') | (refine hKT _ ?_; clear hKT hKF KT KF) | (refine hKF _ ?_; clear hKT hKF KT KF) | (refine Wk.cond ?_; intro KT KF hKT hKF) | (refine Wk.ret ?_) | (refine Wk.draw ?_ ?_ ?_; rotate_left 2; (intro K' hK')) | (refine Wk.step rfl ?_) | (refine Wk.done ?_) | (refine Fin.plain trivial ?_) | ((with_reducible refine top_goal ?_); kernel_rfl) | ((with_reducible refine takes_goal ?_); kernel_rfl) | ((with_reducible refine drop_goal ?_); kernel_rfl) | ((with_reducible refine held_goal ?_); (repeat refine And.intro rfl ?_); exact trivial) | ((with_reducible refine allB_goal ?_); kernel_rfl) | ((with_reducible refine mine_goal ?_); exact mine_of rfl) | ((with_reducible refine withV_goal ?_); refine withV_mk rfl ?_) | ((with_reducible refine hsel_goal ?_); (first | (exact hsel.nil) | (refine hsel.take (HB.like.refl _) (.inr fun _ h => h) ?_) | (refine hsel.take (like_cts ?_) (.inl rfl) ?_) | (refine hsel.skip (spare_own rfl rfl) ?_) | (refine hsel.skip spare_ro ?_))) | (refine And.intro ?_ ?_) | (intro hq; (try simp only [BF.H, Cel.eta, Rul.eta, Grd.eta, if_true, if_false] at hq); (try (exfalso; first | omega | (simp [BF.b] at hq; done))))))
      all_goals (try simp only [Cel.eta, Rul.eta, Grd.eta, if_true, if_false])
      all_goals (first | (with_reducible rfl) | (with_reducible exact trivial) | (with_reducible exact splitN_zero) | ((with_reducible refine fsub_goal ?_); exact trivial) | (with_reducible assumption) | ((with_reducible refine ble_goal ?_); rfl) | ((with_reducible refine ble2_goal ?_); (first | rfl | kernel_rfl)) | ((with_reducible refine beq_goal ?_); rfl) | omega | skip)
      all_goals (first | rfl | omega | exact .inr trivial | exact .inl rfl | (simp [Cel.eta, Rul.eta, Grd.eta, den, denL, den_ofConst, BF.b, bfOf, Cel.sv, Rul.sv, xchA, xchB, backA, backB, meetC, Cel.after, Cel.placed, Cel.h, Cel.v, Cel.collide, Cel.undo, hm0, hm1, hr]; done) | (simp [Cel.eta, Rul.eta, Grd.eta, den, denL, den_ofConst, BF.b, bfOf, Cel.sv, Rul.sv, xchA, xchB, backA, backB, meetC, Cel.after, Cel.placed, Cel.h, Cel.v, Cel.collide, Cel.undo, hm0, hm1, hr] <;> omega))
    · exact hK.elim
def G31 : List (Nat × Ctr) := (127, c_phase_pair_by) :: G30
theorem okG31 : GsOk Try.prog G31 := GsOk.cons k_phase_pair_by okG30
noncomputable def X_phase_exchanged : Env Try.prog := ⟨Try.f98.ntmps, TT, G31, E2, Try.f98.results.toList, [(10, .h [0, 1, 2, 3, 6] (.pure 0 (.pure 1 (.pure 2 (.pure 3 (.s1 4 [1] (.s1 5 [3] (.pure 6 (.done)))))))))], TT_ok, okG31, okE2, mixed⟩
noncomputable def code_phase_exchanged : Code := match Try.f98.body with | some c => c | none => .skip
theorem k_phase_exchanged : EOk Try.prog 98 (inl X_phase_exchanged code_phase_exchanged) := inl_ok X_phase_exchanged Try.func98 rfl (by kernel_rfl) rfl rfl
noncomputable def E3 : List (Nat × ECtr) := (98, inl X_phase_exchanged code_phase_exchanged) :: E2
theorem okE3 : EsOk Try.prog E3 := EsOk.cons k_phase_exchanged okE2
def c_phase_Exchange : Ctr := fun args _ K => match args with
  | [x0, x1, x2, x3] => c1 x0 fun a => c1 x1 fun b => r1 x2 fun r => i1 x3 fun k => K (.tup [Cel.sv (xcA a b r k), Cel.sv (xcB a b r k), .int .i64 (xcE a b r k)])
  | _ => False
noncomputable def X_phase_Exchange : Env Try.prog := ⟨Try.f54.ntmps, TT, G31, E3, Try.f54.results.toList, [], TT_ok, okG31, okE3, mixed⟩
set_option maxHeartbeats 8000000 in
theorem k_phase_Exchange : COk Try.prog 54 c_phase_Exchange :=
  ctr_of_wk X_phase_Exchange Try.func54 rfl (by kernel_rfl) rfl rfl fun args hp K hK => by
    unfold c_phase_Exchange at hK
    split at hK
    · obtain ⟨a, hK1, e0⟩ := iff_c1 hK; clear hK; have hK := hK1; clear hK1
      obtain ⟨b, hK1, e1⟩ := iff_c1 hK; clear hK; have hK := hK1; clear hK1
      obtain ⟨r, hK1, e2⟩ := iff_r1 hK; clear hK; have hK := hK1; clear hK1
      obtain ⟨k, hK1, e3⟩ := iff_i1 hK; clear hK; have hK := hK1; clear hK1
      refine ⟨[Cel.sv a, Cel.sv b, Rul.sv r, .int .i64 k], [], _, denL_cons (e0.symm) (denL_cons (e1.symm) (denL_cons (e2.symm) (denL_cons (e3.symm) (rfl)))), trivial, fun _ _ b hb => (by cases hb), hK, Nat.le_of_ble_eq_true rfl, ?_⟩
      clear hK
      rcases add_cases a b with ⟨ha, m1, m2⟩ | ⟨ha, m1, hb, m2, m3⟩ | ⟨ha, hb, m1, m2, hs, m3, m4, m5⟩ | ⟨ha, hb, m1, m2, hs, m3, m4⟩ <;> rcases Decidable.em (k = 0 ∨ k = 1) with hkk | hkk
      all_goals (repeat' (first | (refine Wk.op ?_; intro K' hK') | (refine Wk.xqOp ?_; intro K' hK') | (refine Wk.rgOne ?_; intro K' hK') | (refine Wk.rgPure ?_; intro K' hK') | (refine Wk.rgX ?_; intro K' hK') | (refine Wk.xqNew ?_; intro K' hK') | (refine Wk.xqEnd ?_) | (refine Wk.rgDone ?_) | (refine Wk.rgTwo ?_ ?_ <;> intro K' hK') | (refine Wk.rgH ?_ ?_) | (refine Wk.rsTake ?_; intro K' hK') | (refine Wk.rsOne ?_ (fun K' hK' => ?_)) | (refine Wk.rsTwo ?_ ?_ (fun K' hK' => ?_) (fun K' hK' => ?_)) | (refine Wk.rsDone ?_) | (refine hK' _ _ ?_ ?_ <;> clear hK' K') | (refine hK' _ _ ?_; clear hK' K') | (refine hK' _ ?_; clear hK' K') | (refine hKT _ ?_; clear hKT hKF KT KF) | (refine hKF _ ?_; clear hKT hKF KT KF) | (refine Wk.cond ?_; intro KT KF hKT hKF) | (refine Wk.ret ?_) | (refine Wk.draw ?_ ?_ ?_; rotate_left 2; (intro K' hK')) | (refine Wk.step rfl ?_) | (refine Wk.done ?_) | (refine Fin.plain trivial ?_) | ((with_reducible refine top_goal ?_); kernel_rfl) | ((with_reducible refine takes_goal ?_); kernel_rfl) | ((with_reducible refine drop_goal ?_); kernel_rfl) | ((with_reducible refine held_goal ?_); (repeat refine And.intro rfl ?_); exact trivial) | ((with_reducible refine allB_goal ?_); kernel_rfl) | ((with_reducible refine mine_goal ?_); exact mine_of rfl) | ((with_reducible refine withV_goal ?_); refine withV_mk rfl ?_) | ((with_reducible refine hsel_goal ?_); (first | (exact hsel.nil) | (refine hsel.take (HB.like.refl _) (.inr fun _ h => h) ?_) | (refine hsel.take (like_cts ?_) (.inl rfl) ?_) | (refine hsel.skip (spare_own rfl rfl) ?_) | (refine hsel.skip spare_ro ?_))) | (refine And.intro ?_ ?_) | (intro hq; (try simp only [BF.H, Cel.eta, Rul.eta, Grd.eta, if_true, if_false] at hq); (try (exfalso; first | omega | (simp [BF.b] at hq; done))))))
      all_goals (try simp only [Cel.eta, Rul.eta, Grd.eta, if_true, if_false])
      all_goals (first | (with_reducible rfl) | (with_reducible exact trivial) | (with_reducible exact splitN_zero) | ((with_reducible refine fsub_goal ?_); exact trivial) | (with_reducible assumption) | ((with_reducible refine ble_goal ?_); rfl) | ((with_reducible refine ble2_goal ?_); (first | rfl | kernel_rfl)) | ((with_reducible refine beq_goal ?_); rfl) | omega | skip)
      all_goals (first | assumption | omega | (simp [Cel.eta, Rul.eta, Grd.eta, den, denL, den_ofConst, BF.b, bfOf, Cel.sv, Rul.sv, xcA, xcB, xcE, Cel.zero, *]; done) | (simp [Cel.eta, Rul.eta, Grd.eta, den, denL, den_ofConst, BF.b, bfOf, Cel.sv, Rul.sv, xcA, xcB, xcE, Cel.zero, rul_inv_ok, *]; done))
    · exact hK.elim
def G32 : List (Nat × Ctr) := (54, c_phase_Exchange) :: G31
theorem okG32 : GsOk Try.prog G32 := GsOk.cons k_phase_Exchange okG31
def c_phase_Unexchange : Ctr := fun args _ K => match args with
  | [x0, x1, x2, x3] => c1 x0 fun a => c1 x1 fun b => r1 x2 fun r => i1 x3 fun k => K (.tup [Cel.sv (xcA a b r.inv k), Cel.sv (xcB a b r.inv k), .int .i64 (xcE a b r.inv k)])
  | _ => False
noncomputable def X_phase_Unexchange : Env Try.prog := ⟨Try.f56.ntmps, TT, G32, E3, Try.f56.results.toList, [], TT_ok, okG32, okE3, mixed⟩
set_option maxHeartbeats 8000000 in
theorem k_phase_Unexchange : COk Try.prog 56 c_phase_Unexchange :=
  ctr_of_wk X_phase_Unexchange Try.func56 rfl (by kernel_rfl) rfl rfl fun args hp K hK => by
    unfold c_phase_Unexchange at hK
    split at hK
    · obtain ⟨a, hK1, e0⟩ := iff_c1 hK; clear hK; have hK := hK1; clear hK1
      obtain ⟨b, hK1, e1⟩ := iff_c1 hK; clear hK; have hK := hK1; clear hK1
      obtain ⟨r, hK1, e2⟩ := iff_r1 hK; clear hK; have hK := hK1; clear hK1
      obtain ⟨k, hK1, e3⟩ := iff_i1 hK; clear hK; have hK := hK1; clear hK1
      refine ⟨[Cel.sv a, Cel.sv b, Rul.sv r, .int .i64 k], [], _, denL_cons (e0.symm) (denL_cons (e1.symm) (denL_cons (e2.symm) (denL_cons (e3.symm) (rfl)))), trivial, fun _ _ b hb => (by cases hb), hK, Nat.le_of_ble_eq_true rfl, ?_⟩
      clear hK
      rcases add_cases a b with ⟨ha, m1, m2⟩ | ⟨ha, m1, hb, m2, m3⟩ | ⟨ha, hb, m1, m2, hs, m3, m4, m5⟩ | ⟨ha, hb, m1, m2, hs, m3, m4⟩ <;> rcases Decidable.em (k = 0 ∨ k = 1) with hkk | hkk
      all_goals (repeat' (first | (refine Wk.op ?_; intro K' hK') | (refine Wk.xqOp ?_; intro K' hK') | (refine Wk.rgOne ?_; intro K' hK') | (refine Wk.rgPure ?_; intro K' hK') | (refine Wk.rgX ?_; intro K' hK') | (refine Wk.xqNew ?_; intro K' hK') | (refine Wk.xqEnd ?_) | (refine Wk.rgDone ?_) | (refine Wk.rgTwo ?_ ?_ <;> intro K' hK') | (refine Wk.rgH ?_ ?_) | (refine Wk.rsTake ?_; intro K' hK') | (refine Wk.rsOne ?_ (fun K' hK' => ?_)) | (refine Wk.rsTwo ?_ ?_ (fun K' hK' => ?_) (fun K' hK' => ?_)) | (refine Wk.rsDone ?_) | (refine hK' _ _ ?_ ?_ <;> clear hK' K') | (refine hK' _ _ ?_; clear hK' K') | (refine hK' _ ?_; clear hK' K') | (refine hKT _ ?_; clear hKT hKF KT KF) | (refine hKF _ ?_; clear hKT hKF KT KF) | (refine Wk.cond ?_; intro KT KF hKT hKF) | (refine Wk.ret ?_) | (refine Wk.draw ?_ ?_ ?_; rotate_left 2; (intro K' hK')) | (refine Wk.step rfl ?_) | (refine Wk.done ?_) | (refine Fin.plain trivial ?_) | ((with_reducible refine top_goal ?_); kernel_rfl) | ((with_reducible refine takes_goal ?_); kernel_rfl) | ((with_reducible refine drop_goal ?_); kernel_rfl) | ((with_reducible refine held_goal ?_); (repeat refine And.intro rfl ?_); exact trivial) | ((with_reducible refine allB_goal ?_); kernel_rfl) | ((with_reducible refine mine_goal ?_); exact mine_of rfl) | ((with_reducible refine withV_goal ?_); refine withV_mk rfl ?_) | ((with_reducible refine hsel_goal ?_); (first | (exact hsel.nil) | (refine hsel.take (HB.like.refl _) (.inr fun _ h => h) ?_) | (refine hsel.take (like_cts ?_) (.inl rfl) ?_) | (refine hsel.skip (spare_own rfl rfl) ?_) | (refine hsel.skip spare_ro ?_))) | (refine And.intro ?_ ?_) | (intro hq; (try simp only [BF.H, Cel.eta, Rul.eta, Grd.eta, if_true, if_false] at hq); (try (exfalso; first | omega | (simp [BF.b] at hq; done))))))
      all_goals (try simp only [Cel.eta, Rul.eta, Grd.eta, if_true, if_false])
      all_goals (first | (with_reducible rfl) | (with_reducible exact trivial) | (with_reducible exact splitN_zero) | ((with_reducible refine fsub_goal ?_); exact trivial) | (with_reducible assumption) | ((with_reducible refine ble_goal ?_); rfl) | ((with_reducible refine ble2_goal ?_); (first | rfl | kernel_rfl)) | ((with_reducible refine beq_goal ?_); rfl) | omega | skip)
      all_goals (first | assumption | omega | (simp [Cel.eta, Rul.eta, Grd.eta, den, denL, den_ofConst, BF.b, bfOf, Cel.sv, Rul.sv, xcA, xcB, xcE, Cel.zero, *]; done) | (simp [Cel.eta, Rul.eta, Grd.eta, den, denL, den_ofConst, BF.b, bfOf, Cel.sv, Rul.sv, xcA, xcB, xcE, Cel.zero, rul_inv_ok, *]; done))
    · exact hK.elim
def G33 : List (Nat × Ctr) := (56, c_phase_Unexchange) :: G32
theorem okG33 : GsOk Try.prog G33 := GsOk.cons k_phase_Unexchange okG32
def c_lawD_sum : Ctr := fun args _ K => match args with
  | [x0] => c1 x0 fun c => (c.ok = true) ∧ K (.int .i64 (c.e + c.n + c.w + c.s))
  | _ => False
noncomputable def X_lawD_sum : Env Try.prog := ⟨Try.f59.ntmps, TT, G33, E3, Try.f59.results.toList, [], TT_ok, okG33, okE3, mixed⟩
theorem k_lawD_sum : COk Try.prog 59 c_lawD_sum :=
  ctr_of_wk X_lawD_sum Try.func59 rfl (by kernel_rfl) rfl rfl fun args hp K hK => by
    unfold c_lawD_sum at hK
    split at hK
    · obtain ⟨c, hK1, e0⟩ := iff_c1 hK; clear hK; have hK := hK1; clear hK1
      obtain ⟨hpre, hK⟩ := hK
      have hf := Cel.ok_iff.1 hpre
      refine ⟨[Cel.sv c], [], _, denL_cons (e0.symm) (rfl), trivial, fun _ _ b hb => (by cases hb), hK, Nat.le_of_ble_eq_true rfl, ?_⟩
      clear hK
      repeat' (first | (refine Wk.op ?_; intro K' hK') | (refine Wk.xqOp ?_; intro K' hK') | (refine Wk.rgOne ?_; intro K' hK') | (refine Wk.rgPure ?_; intro K' hK') | (refine Wk.rgX ?_; intro K' hK') | (refine Wk.xqNew ?_; intro K' hK') | (refine Wk.xqEnd ?_) | (refine Wk.rgDone ?_) | (refine Wk.rgTwo ?_ ?_ <;> intro K' hK') | (refine Wk.rgH ?_ ?_) | (refine Wk.rsTake ?_; intro K' hK') | (refine Wk.rsOne ?_ (fun K' hK' => ?_)) | (refine Wk.rsTwo ?_ ?_ (fun K' hK' => ?_) (fun K' hK' => ?_)) | (refine Wk.rsDone ?_) | (refine hK' _ _ ?_ ?_ <;> clear hK' K') | (refine hK' _ _ ?_; clear hK' K') | (refine hK' _ ?_; clear hK' K') | (refine hKT _ ?_; clear hKT hKF KT KF) | (refine hKF _ ?_; clear hKT hKF KT KF) | (refine Wk.cond ?_; intro KT KF hKT hKF) | (refine Wk.ret ?_) | (refine Wk.draw ?_ ?_ ?_; rotate_left 2; (intro K' hK')) | (refine Wk.step rfl ?_) | (refine Wk.done ?_) | (refine Fin.plain trivial ?_) | ((with_reducible refine top_goal ?_); kernel_rfl) | ((with_reducible refine takes_goal ?_); kernel_rfl) | ((with_reducible refine drop_goal ?_); kernel_rfl) | ((with_reducible refine held_goal ?_); (repeat refine And.intro rfl ?_); exact trivial) | ((with_reducible refine allB_goal ?_); kernel_rfl) | ((with_reducible refine mine_goal ?_); exact mine_of rfl) | ((with_reducible refine withV_goal ?_); refine withV_mk rfl ?_) | ((with_reducible refine hsel_goal ?_); (first | (exact hsel.nil) | (refine hsel.take (HB.like.refl _) (.inr fun _ h => h) ?_) | (refine hsel.take (like_cts ?_) (.inl rfl) ?_) | (refine hsel.skip (spare_own rfl rfl) ?_) | (refine hsel.skip spare_ro ?_))) | (refine And.intro ?_ ?_) | (intro hq; (try simp only [BF.H, Cel.eta, Rul.eta, Grd.eta, if_true, if_false] at hq); (try (exfalso; first | omega | (simp [BF.b] at hq; done)))))
      all_goals (try simp only [Cel.eta, Rul.eta, Grd.eta, if_true, if_false])
      all_goals (first | (with_reducible rfl) | (with_reducible exact trivial) | (with_reducible exact splitN_zero) | ((with_reducible refine fsub_goal ?_); exact trivial) | (with_reducible assumption) | ((with_reducible refine ble_goal ?_); rfl) | ((with_reducible refine ble2_goal ?_); (first | rfl | kernel_rfl)) | ((with_reducible refine beq_goal ?_); rfl) | omega | skip)
      all_goals (first | (simp [Cel.eta, Rul.eta, Grd.eta, den, denL, den_ofConst, BF.b, bfOf, Cel.sv, Rul.sv]; done) | (simp [Cel.eta, Rul.eta, Grd.eta, den, denL, den_ofConst, BF.b, bfOf, Cel.sv, Rul.sv]; omega) | (simp [Cel.eta, Rul.eta, Grd.eta, den, denL, den_ofConst, BF.b, bfOf, Cel.sv, Rul.sv]; (repeat' split) <;> omega) | (simp [Cel.eta, Rul.eta, Grd.eta, den, denL, den_ofConst, BF.b, bfOf, Cel.sv, Rul.sv]; rw [Bool.eq_iff_iff]; (repeat' split) <;> simp <;> omega) | (simp [Cel.eta, Rul.eta, Grd.eta, den, denL, den_ofConst, BF.b, bfOf, Cel.sv, Rul.sv, *]; done) | (simp [Cel.eta, Rul.eta, Grd.eta, den, denL, den_ofConst, BF.b, bfOf, Cel.sv, Rul.sv, *]; omega))
    · exact hK.elim
def G34 : List (Nat × Ctr) := (59, c_lawD_sum) :: G33
theorem okG34 : GsOk Try.prog G34 := GsOk.cons k_lawD_sum okG33
noncomputable def X_refB_Impulse : Env Try.prog := ⟨Try.f60.ntmps, TT, G34, E3, Try.f60.results.toList, [(5, .x [0, 1, 2, 3, 4, 5, 6, 7, 8, 9, 10, 11, 12, 13] [] (.done)), (6, .x [0, 1, 2, 3, 4, 5, 6, 7, 8, 9, 10, 11, 12, 13] [] (.done))], TT_ok, okG34, okE3, mixed⟩
noncomputable def code_refB_Impulse : Code := match Try.f60.body with | some c => c | none => .skip
theorem k_refB_Impulse : EOk Try.prog 60 (inl X_refB_Impulse code_refB_Impulse) := inl_ok X_refB_Impulse Try.func60 rfl (by kernel_rfl) rfl rfl
noncomputable def E4 : List (Nat × ECtr) := (60, inl X_refB_Impulse code_refB_Impulse) :: E3
theorem okE4 : EsOk Try.prog E4 := EsOk.cons k_refB_Impulse okE3
def c_lawD_awake : Ctr := fun args _ K => match args with
  | [] => K (.bool .tt)
  | _ => False
noncomputable def X_lawD_awake : Env Try.prog := ⟨Try.f58.ntmps, TT, G34, E4, Try.f58.results.toList, [], TT_ok, okG34, okE4, mixed⟩
theorem k_lawD_awake : COk Try.prog 58 c_lawD_awake :=
  ctr_of_wk X_lawD_awake Try.func58 rfl (by kernel_rfl) rfl rfl fun args hp K hK => by
    unfold c_lawD_awake at hK
    split at hK
    · refine ⟨[], [], _, rfl, trivial, fun _ _ b hb => (by cases hb), hK, Nat.le_of_ble_eq_true rfl, ?_⟩
      clear hK
      have h1 : xcA ⟨3, 0, 0, 0⟩ ⟨1, 0, 2, 0⟩ ⟨1, 0⟩ 0 = ⟨1, 0, 2, 0⟩ := by decide
      have h2 : xcB ⟨3, 0, 0, 0⟩ ⟨1, 0, 2, 0⟩ ⟨1, 0⟩ 0 = ⟨3, 0, 0, 0⟩ := by decide
      have h3 : xcE ⟨3, 0, 0, 0⟩ ⟨1, 0, 2, 0⟩ ⟨1, 0⟩ 0 = 0 := by decide
      repeat' (first | (refine Wk.op ?_; intro K' hK') | (refine Wk.xqOp ?_; intro K' hK') | (refine Wk.rgOne ?_; intro K' hK') | (refine Wk.rgPure ?_; intro K' hK') | (refine Wk.rgX ?_; intro K' hK') | (refine Wk.xqNew ?_; intro K' hK') | (refine Wk.xqEnd ?_) | (refine Wk.rgDone ?_) | (refine Wk.rgTwo ?_ ?_ <;> intro K' hK') | (refine Wk.rgH ?_ ?_) | (refine Wk.rsTake ?_; intro K' hK') | (refine Wk.rsOne ?_ (fun K' hK' => ?_)) | (refine Wk.rsTwo ?_ ?_ (fun K' hK' => ?_) (fun K' hK' => ?_)) | (refine Wk.rsDone ?_) | (refine hK' _ _ ?_ ?_ <;> clear hK' K') | (refine hK' _ _ ?_; clear hK' K') | (refine hK' _ ?_; clear hK' K') | (refine hKT _ ?_; clear hKT hKF KT KF) | (refine hKF _ ?_; clear hKT hKF KT KF) | (refine Wk.cond ?_; intro KT KF hKT hKF) | (refine Wk.ret ?_) | (refine Wk.draw ?_ ?_ ?_; rotate_left 2; (intro K' hK')) | (refine Wk.step rfl ?_) | (refine Wk.done ?_) | (refine Fin.plain trivial ?_) | ((with_reducible refine top_goal ?_); kernel_rfl) | ((with_reducible refine takes_goal ?_); kernel_rfl) | ((with_reducible refine drop_goal ?_); kernel_rfl) | ((with_reducible refine held_goal ?_); (repeat refine And.intro rfl ?_); exact trivial) | ((with_reducible refine allB_goal ?_); kernel_rfl) | ((with_reducible refine mine_goal ?_); exact mine_of rfl) | ((with_reducible refine withV_goal ?_); refine withV_mk rfl ?_) | ((with_reducible refine hsel_goal ?_); (first | (exact hsel.nil) | (refine hsel.take (HB.like.refl _) (.inr fun _ h => h) ?_) | (refine hsel.take (like_cts ?_) (.inl rfl) ?_) | (refine hsel.skip (spare_own rfl rfl) ?_) | (refine hsel.skip spare_ro ?_))) | (refine And.intro ?_ ?_) | (intro hq; (try simp only [BF.H, Cel.eta, Rul.eta, Grd.eta, if_true, if_false] at hq); (try simp only [h1, h2, h3] at hq); (try (exfalso; first | omega | (simp [BF.b] at hq; done)))))
      all_goals (try simp only [Cel.eta, Rul.eta, Grd.eta, if_true, if_false])
      all_goals (first | (with_reducible rfl) | (with_reducible exact trivial) | (with_reducible exact splitN_zero) | ((with_reducible refine fsub_goal ?_); exact trivial) | (with_reducible assumption) | ((with_reducible refine ble_goal ?_); rfl) | ((with_reducible refine ble2_goal ?_); (first | rfl | kernel_rfl)) | ((with_reducible refine beq_goal ?_); rfl) | omega | skip)
      all_goals (first | (simp [Cel.eta, Rul.eta, Grd.eta, den, denL, den_ofConst, BF.b, bfOf, Cel.sv, Rul.sv, h1, h2, h3]; done) | (simp [Cel.eta, Rul.eta, Grd.eta, den, denL, den_ofConst, BF.b, bfOf, Cel.sv, Rul.sv, h1, h2, h3]; omega) | (simp [Cel.eta, Rul.eta, Grd.eta, den, denL, den_ofConst, BF.b, bfOf, Cel.sv, Rul.sv, h1, h2, h3]; (repeat' split) <;> omega) | (simp [Cel.eta, Rul.eta, Grd.eta, den, denL, den_ofConst, BF.b, bfOf, Cel.sv, Rul.sv, h1, h2, h3]; rw [Bool.eq_iff_iff]; (repeat' split) <;> simp <;> omega) | (simp [Cel.eta, Rul.eta, Grd.eta, den, denL, den_ofConst, BF.b, bfOf, Cel.sv, Rul.sv, h1, h2, h3, *]; done) | (simp [Cel.eta, Rul.eta, Grd.eta, den, denL, den_ofConst, BF.b, bfOf, Cel.sv, Rul.sv, h1, h2, h3, *]; omega))
    · exact hK.elim
def G35 : List (Nat × Ctr) := (58, c_lawD_awake) :: G34
theorem okG35 : GsOk Try.prog G35 := GsOk.cons k_lawD_awake okG34
def c_lawD_PhaseExchanges : Ctr := fun args _ K => match args with
  | [x0, x1, x2] => d1 x0 fun x => r1 x1 fun r => i1 x2 fun k => (I64 k) ∧ K (.bool .tt)
  | _ => False
noncomputable def X_lawD_PhaseExchanges : Env Try.prog := ⟨Try.f12.ntmps, TT, G35, E4, Try.f12.results.toList, [(11, .x [0, 1, 2, 3, 4, 5, 6, 7, 8, 9, 10, 11, 12, 13] [] (.done))], TT_ok, okG35, okE4, mixed⟩
set_option maxHeartbeats 4000000 in
theorem k_lawD_PhaseExchanges : COk Try.prog 12 c_lawD_PhaseExchanges :=
  ctr_of_wk X_lawD_PhaseExchanges Try.func12 rfl (by kernel_rfl) rfl rfl fun args hp K hK => by
    unfold c_lawD_PhaseExchanges at hK
    split at hK
    · obtain ⟨x, hK1, e0⟩ := iff_d1 hK; clear hK; have hK := hK1; clear hK1
      obtain ⟨r, hK1, e1⟩ := iff_r1 hK; clear hK; have hK := hK1; clear hK1
      obtain ⟨k, hK1, e2⟩ := iff_i1 hK; clear hK; have hK := hK1; clear hK1
      obtain ⟨hpre, hK⟩ := hK
      refine ⟨[.agg [.int .i64 x.a.e, .int .i64 x.a.n, .int .i64 x.a.w, .int .i64 x.a.s, .int .i64 x.b.e, .int .i64 x.b.n, .int .i64 x.b.w, .int .i64 x.b.s], Rul.sv r, .int .i64 k], [], _, denL_cons (e0.symm) (denL_cons (e1.symm) (denL_cons (e2.symm) (rfl))), trivial, fun _ _ b hb => (by cases hb), hK, Nat.le_of_ble_eq_true rfl, ?_⟩
      clear hK
      rcases xc_kept x.a x.b r k with h0 | ⟨h0, q1, q2, q3, q4, q5, q6, q7, q8, q9, q10, q11⟩
      all_goals (repeat' (first | (refine Wk.op ?_; intro K' hK') | (refine Wk.xqOp ?_; intro K' hK') | (refine Wk.rgOne ?_; intro K' hK') | (refine Wk.rgPure ?_; intro K' hK') | (refine Wk.rgX ?_; intro K' hK') | (refine Wk.xqNew ?_; intro K' hK') | (refine Wk.xqEnd ?_) | (refine Wk.rgDone ?_) | (refine Wk.rgTwo ?_ ?_ <;> intro K' hK') | (refine Wk.rgH ?_ ?_) | (refine Wk.rsTake ?_; intro K' hK') | (refine Wk.rsOne ?_ (fun K' hK' => ?_)) | (refine Wk.rsTwo ?_ ?_ (fun K' hK' => ?_) (fun K' hK' => ?_)) | (refine Wk.rsDone ?_) | (refine hK' _ _ ?_ ?_ <;> clear hK' K') | (refine hK' _ _ ?_; clear hK' K') | (refine hK' _ ?_; clear hK' K') | (refine hKT _ ?_; clear hKT hKF KT KF) | (refine hKF _ ?_; clear hKT hKF KT KF) | (refine Wk.cond ?_; intro KT KF hKT hKF) | (refine Wk.ret ?_) | (refine Wk.draw ?_ ?_ ?_; rotate_left 2; (intro K' hK')) | (refine Wk.step rfl ?_) | (refine Wk.rounds (X := X_refB_Impulse) (t := .b 0 :: _) 3 ?_) | (refine Wk.done ?_) | (refine Fin.plain trivial ?_) | ((with_reducible refine top_goal ?_); kernel_rfl) | ((with_reducible refine takes_goal ?_); kernel_rfl) | ((with_reducible refine drop_goal ?_); kernel_rfl) | ((with_reducible refine held_goal ?_); (repeat refine And.intro rfl ?_); exact trivial) | ((with_reducible refine allB_goal ?_); kernel_rfl) | ((with_reducible refine mine_goal ?_); exact mine_of rfl) | ((with_reducible refine withV_goal ?_); refine withV_mk rfl ?_) | ((with_reducible refine hsel_goal ?_); (first | (exact hsel.nil) | (refine hsel.take (HB.like.refl _) (.inr fun _ h => h) ?_) | (refine hsel.take (like_cts ?_) (.inl rfl) ?_) | (refine hsel.skip (spare_own rfl rfl) ?_) | (refine hsel.skip spare_ro ?_))) | (refine And.intro ?_ ?_) | (intro hq; (try simp only [BF.H, Cel.eta, Rul.eta, Grd.eta, if_true, if_false] at hq); (try (exfalso; first | omega | (simp [BF.b] at hq; done))))))
      all_goals (try simp only [Cel.eta, Rul.eta, Grd.eta, if_true, if_false])
      all_goals (first | (with_reducible rfl) | (with_reducible exact trivial) | (with_reducible exact splitN_zero) | ((with_reducible refine fsub_goal ?_); exact trivial) | (with_reducible assumption) | ((with_reducible refine ble_goal ?_); rfl) | ((with_reducible refine ble2_goal ?_); (first | rfl | kernel_rfl)) | ((with_reducible refine beq_goal ?_); rfl) | omega | skip)
      all_goals (first | assumption | (have f1 := Cel.ok_iff.1 q8; have f2 := Cel.ok_iff.1 q9; have f3 := Cel.ok_iff.1 q10; have f4 := Cel.ok_iff.1 q11; first | omega | (simp [List.getD] at hq; omega) | (exfalso; simp [q6, q7] at hq; done) | (simp [Cel.eta, Rul.eta, Grd.eta, den, denL, den_ofConst, BF.b, bfOf, Cel.sv, Rul.sv, q5, q6, q7, Cts.len, opt_getD]; done) | (simp [Cel.eta, Rul.eta, Grd.eta, den, denL, den_ofConst, BF.b, bfOf, Cel.sv, Rul.sv, q5, q6, q7]; omega)) | (simp [Cel.eta, Rul.eta, Grd.eta, den, denL, den_ofConst, BF.b, bfOf, Cel.sv, Rul.sv, Cts.len]; done))
    · exact hK.elim
def G36 : List (Nat × Ctr) := (12, c_lawD_PhaseExchanges) :: G35
theorem okG36 : GsOk Try.prog G36 := GsOk.cons k_lawD_PhaseExchanges okG35
end Go.Proofs.Ytcagdjbinkadpaa

/- Contracts: what the functions hand back. -/
import Derived.Test.YtcagdjbinkadpaaT
import Derived.Test.YtcagdjbinkadpaaSyJ
import Derived.Test.YtcagdjbinkadpaaSpAdd
import Derived.Test.YtcagdjbinkadpaaSpOrder
set_option linter.unusedSimpArgs false
set_option linter.unusedVariables false
set_option maxRecDepth 100000
namespace Go.Proofs.Ytcagdjbinkadpaa
open Go.Sy Go.RowKit

def G0 : List (Nat × Ctr) := []
theorem okG0 : GsOk Try.prog G0 := GsOk.nil _
def E0 : List (Nat × ECtr) := []
theorem okE0 : EsOk Try.prog E0 := EsOk.nil _
def c_cell_within : Ctr := fun args _ K => match args with
  | [x0, x1, x2] => i1 x0 fun n => i1 x1 fun lo => i1 x2 fun hi => K (.bool (.and (.le lo n) (.le n hi)))
  | _ => False
noncomputable def X_cell_within : Env Try.prog := ⟨Try.f89.ntmps, TT, G0, E0, Try.f89.results.toList, [], TT_ok, okG0, okE0, mixed⟩
theorem k_cell_within : COk Try.prog 89 c_cell_within :=
  ctr_of_wk X_cell_within Try.func89 rfl (by kernel_rfl) rfl rfl fun args hp K hK => by
    unfold c_cell_within at hK
    split at hK
    · obtain ⟨n, hK1, e0⟩ := iff_i1 hK; clear hK; have hK := hK1; clear hK1
      obtain ⟨lo, hK1, e1⟩ := iff_i1 hK; clear hK; have hK := hK1; clear hK1
      obtain ⟨hi, hK1, e2⟩ := iff_i1 hK; clear hK; have hK := hK1; clear hK1
      refine ⟨[.int .i64 n, .int .i64 lo, .int .i64 hi], [], _, denL_cons (e0.symm) (denL_cons (e1.symm) (denL_cons (e2.symm) (rfl))), trivial, fun _ _ b hb => (by cases hb), hK, Nat.le_of_ble_eq_true rfl, ?_⟩
      clear hK
      repeat' (first | (refine Wk.op ?_; intro K' hK') | (refine Wk.xqOp ?_; intro K' hK') | (refine Wk.rgOne ?_; intro K' hK') | (refine Wk.rgPure ?_; intro K' hK') | (refine Wk.rgX ?_; intro K' hK') | (refine Wk.xqNew ?_; intro K' hK') | (refine Wk.xqEnd ?_) | (refine Wk.rgDone ?_) | (refine Wk.rgTwo ?_ ?_ <;> intro K' hK') | (refine hK' _ _ ?_; clear hK' K') | (refine hK' _ ?_; clear hK' K') | (refine hKT _ ?_; clear hKT hKF KT KF) | (refine hKF _ ?_; clear hKT hKF KT KF) | (refine Wk.cond ?_; intro KT KF hKT hKF) | (refine Wk.ret ?_) | (refine Wk.draw ?_ ?_ ?_; rotate_left 2; (intro K' hK')) | (refine Wk.step rfl ?_) | (refine Wk.done ?_) | (refine Fin.plain trivial ?_) | ((with_reducible refine top_goal ?_); kernel_rfl) | ((with_reducible refine allB_goal ?_); kernel_rfl) | ((with_reducible refine mine_goal ?_); exact mine_of rfl) | ((with_reducible refine withV_goal ?_); refine withV_mk rfl ?_) | ((with_reducible refine hsel_goal ?_); (first | (exact hsel.nil) | (refine hsel.take (HB.like.refl _) (.inr fun _ h => h) ?_) | (refine hsel.take (like_cts ?_) (.inl rfl) ?_) | (refine hsel.skip (spare_own rfl rfl) ?_) | (refine hsel.skip spare_ro ?_))) | (refine And.intro ?_ ?_) | (intro hq; (try simp only [BF.H, Cel.eta, Rul.eta, Grd.eta, if_true, if_false] at hq); (try (exfalso; first | omega | (simp [BF.b] at hq; done)))))
      all_goals (try simp only [Cel.eta, Rul.eta, Grd.eta, if_true, if_false])
      all_goals (first | (with_reducible rfl) | (with_reducible exact trivial) | (with_reducible exact splitN_zero) | ((with_reducible refine fsub_goal ?_); exact trivial) | (with_reducible assumption) | ((with_reducible refine ble_goal ?_); rfl) | omega | skip)
      all_goals (first | (simp [Cel.eta, Rul.eta, Grd.eta, den, denL, den_ofConst, BF.b, bfOf, Cel.sv, Rul.sv]; done) | (simp [Cel.eta, Rul.eta, Grd.eta, den, denL, den_ofConst, BF.b, bfOf, Cel.sv, Rul.sv]; omega) | (simp [Cel.eta, Rul.eta, Grd.eta, den, denL, den_ofConst, BF.b, bfOf, Cel.sv, Rul.sv]; (repeat' split) <;> omega) | (simp [Cel.eta, Rul.eta, Grd.eta, den, denL, den_ofConst, BF.b, bfOf, Cel.sv, Rul.sv]; rw [Bool.eq_iff_iff]; (repeat' split) <;> simp <;> omega) | (simp [Cel.eta, Rul.eta, Grd.eta, den, denL, den_ofConst, BF.b, bfOf, Cel.sv, Rul.sv, *]; done) | (simp [Cel.eta, Rul.eta, Grd.eta, den, denL, den_ofConst, BF.b, bfOf, Cel.sv, Rul.sv, *]; omega))
    · exact hK.elim
def G1 : List (Nat × Ctr) := (89, c_cell_within) :: G0
theorem okG1 : GsOk Try.prog G1 := GsOk.cons k_cell_within okG0
def c_refA_within : Ctr := fun args _ K => match args with
  | [x0, x1, x2] => i1 x0 fun n => i1 x1 fun lo => i1 x2 fun hi => K (.bool (.and (.le lo n) (.le n hi)))
  | _ => False
noncomputable def X_refA_within : Env Try.prog := ⟨Try.f88.ntmps, TT, G1, E0, Try.f88.results.toList, [], TT_ok, okG1, okE0, mixed⟩
theorem k_refA_within : COk Try.prog 88 c_refA_within :=
  ctr_of_wk X_refA_within Try.func88 rfl (by kernel_rfl) rfl rfl fun args hp K hK => by
    unfold c_refA_within at hK
    split at hK
    · obtain ⟨n, hK1, e0⟩ := iff_i1 hK; clear hK; have hK := hK1; clear hK1
      obtain ⟨lo, hK1, e1⟩ := iff_i1 hK; clear hK; have hK := hK1; clear hK1
      obtain ⟨hi, hK1, e2⟩ := iff_i1 hK; clear hK; have hK := hK1; clear hK1
      refine ⟨[.int .i64 n, .int .i64 lo, .int .i64 hi], [], _, denL_cons (e0.symm) (denL_cons (e1.symm) (denL_cons (e2.symm) (rfl))), trivial, fun _ _ b hb => (by cases hb), hK, Nat.le_of_ble_eq_true rfl, ?_⟩
      clear hK
      repeat' (first | (refine Wk.op ?_; intro K' hK') | (refine Wk.xqOp ?_; intro K' hK') | (refine Wk.rgOne ?_; intro K' hK') | (refine Wk.rgPure ?_; intro K' hK') | (refine Wk.rgX ?_; intro K' hK') | (refine Wk.xqNew ?_; intro K' hK') | (refine Wk.xqEnd ?_) | (refine Wk.rgDone ?_) | (refine Wk.rgTwo ?_ ?_ <;> intro K' hK') | (refine hK' _ _ ?_; clear hK' K') | (refine hK' _ ?_; clear hK' K') | (refine hKT _ ?_; clear hKT hKF KT KF) | (refine hKF _ ?_; clear hKT hKF KT KF) | (refine Wk.cond ?_; intro KT KF hKT hKF) | (refine Wk.ret ?_) | (refine Wk.draw ?_ ?_ ?_; rotate_left 2; (intro K' hK')) | (refine Wk.step rfl ?_) | (refine Wk.done ?_) | (refine Fin.plain trivial ?_) | ((with_reducible refine top_goal ?_); kernel_rfl) | ((with_reducible refine allB_goal ?_); kernel_rfl) | ((with_reducible refine mine_goal ?_); exact mine_of rfl) | ((with_reducible refine withV_goal ?_); refine withV_mk rfl ?_) | ((with_reducible refine hsel_goal ?_); (first | (exact hsel.nil) | (refine hsel.take (HB.like.refl _) (.inr fun _ h => h) ?_) | (refine hsel.take (like_cts ?_) (.inl rfl) ?_) | (refine hsel.skip (spare_own rfl rfl) ?_) | (refine hsel.skip spare_ro ?_))) | (refine And.intro ?_ ?_) | (intro hq; (try simp only [BF.H, Cel.eta, Rul.eta, Grd.eta, if_true, if_false] at hq); (try (exfalso; first | omega | (simp [BF.b] at hq; done)))))
      all_goals (try simp only [Cel.eta, Rul.eta, Grd.eta, if_true, if_false])
      all_goals (first | (with_reducible rfl) | (with_reducible exact trivial) | (with_reducible exact splitN_zero) | ((with_reducible refine fsub_goal ?_); exact trivial) | (with_reducible assumption) | ((with_reducible refine ble_goal ?_); rfl) | omega | skip)
      all_goals (first | (simp [Cel.eta, Rul.eta, Grd.eta, den, denL, den_ofConst, BF.b, bfOf, Cel.sv, Rul.sv]; done) | (simp [Cel.eta, Rul.eta, Grd.eta, den, denL, den_ofConst, BF.b, bfOf, Cel.sv, Rul.sv]; omega) | (simp [Cel.eta, Rul.eta, Grd.eta, den, denL, den_ofConst, BF.b, bfOf, Cel.sv, Rul.sv]; (repeat' split) <;> omega) | (simp [Cel.eta, Rul.eta, Grd.eta, den, denL, den_ofConst, BF.b, bfOf, Cel.sv, Rul.sv]; rw [Bool.eq_iff_iff]; (repeat' split) <;> simp <;> omega) | (simp [Cel.eta, Rul.eta, Grd.eta, den, denL, den_ofConst, BF.b, bfOf, Cel.sv, Rul.sv, *]; done) | (simp [Cel.eta, Rul.eta, Grd.eta, den, denL, den_ofConst, BF.b, bfOf, Cel.sv, Rul.sv, *]; omega))
    · exact hK.elim
def G2 : List (Nat × Ctr) := (88, c_refA_within) :: G1
theorem okG2 : GsOk Try.prog G2 := GsOk.cons k_refA_within okG1
def c_cell_sum : Ctr := fun args hp K => match args with
  | [x0] => s4 x0 hp fun c => K (.int .i64 (Cel.sum c))
  | _ => False
noncomputable def X_cell_sum : Env Try.prog := ⟨Try.f87.ntmps, TT, G2, E0, Try.f87.results.toList, [], TT_ok, okG2, okE0, mixed⟩
theorem k_cell_sum : COk Try.prog 87 c_cell_sum :=
  ctr_of_wk X_cell_sum Try.func87 rfl (by kernel_rfl) rfl rfl fun args hp K hK => by
    unfold c_cell_sum at hK
    split at hK
    · obtain ⟨c, nmc, capc, hK1, e0, vwc⟩ := iff_s4 hK; clear hK; have hK := hK1; clear hK1
      refine ⟨[.sub 0 nmc 0 0 0 4 capc], [⟨some nmc, false, .ro, .l [.int .i64 c.e, .int .i64 c.n, .int .i64 c.w, .int .i64 c.s]⟩], _, denL_cons (e0) (rfl), ⟨trivial, trivial⟩, fun w hw b hb => (by rw [List.mem_singleton] at hb; subst hb; exact vwc w hw), hK, Nat.le_of_ble_eq_true rfl, ?_⟩
      clear hK
      repeat' (first | (refine Wk.op ?_; intro K' hK') | (refine Wk.xqOp ?_; intro K' hK') | (refine Wk.rgOne ?_; intro K' hK') | (refine Wk.rgPure ?_; intro K' hK') | (refine Wk.rgX ?_; intro K' hK') | (refine Wk.xqNew ?_; intro K' hK') | (refine Wk.xqEnd ?_) | (refine Wk.rgDone ?_) | (refine Wk.rgTwo ?_ ?_ <;> intro K' hK') | (refine hK' _ _ ?_; clear hK' K') | (refine hK' _ ?_; clear hK' K') | (refine hKT _ ?_; clear hKT hKF KT KF) | (refine hKF _ ?_; clear hKT hKF KT KF) | (refine Wk.cond ?_; intro KT KF hKT hKF) | (refine Wk.ret ?_) | (refine Wk.draw ?_ ?_ ?_; rotate_left 2; (intro K' hK')) | (refine Wk.step rfl ?_) | (refine Wk.rounds (X := X_cell_sum) (t := .b 0 :: _) 5 ?_) | (refine Wk.done ?_) | (refine Fin.plain trivial ?_) | ((with_reducible refine top_goal ?_); kernel_rfl) | ((with_reducible refine allB_goal ?_); kernel_rfl) | ((with_reducible refine mine_goal ?_); exact mine_of rfl) | ((with_reducible refine withV_goal ?_); refine withV_mk rfl ?_) | ((with_reducible refine hsel_goal ?_); (first | (exact hsel.nil) | (refine hsel.take (HB.like.refl _) (.inr fun _ h => h) ?_) | (refine hsel.take (like_cts ?_) (.inl rfl) ?_) | (refine hsel.skip (spare_own rfl rfl) ?_) | (refine hsel.skip spare_ro ?_))) | (refine And.intro ?_ ?_) | (intro hq; (try simp only [BF.H, Cel.eta, Rul.eta, Grd.eta, if_true, if_false] at hq); (try (exfalso; first | omega | (simp [BF.b] at hq; done)))))
      all_goals (try simp only [Cel.eta, Rul.eta, Grd.eta, if_true, if_false])
      all_goals (first | (with_reducible rfl) | (with_reducible exact trivial) | (with_reducible exact splitN_zero) | ((with_reducible refine fsub_goal ?_); exact trivial) | (with_reducible assumption) | ((with_reducible refine ble_goal ?_); rfl) | omega | skip)
      all_goals (first | (simp [Cel.eta, Rul.eta, Grd.eta, den, denL, den_ofConst, BF.b, bfOf, Cel.sv, Rul.sv, Cel.sum, Cel.ok]; done) | (simp [Cel.eta, Rul.eta, Grd.eta, den, denL, den_ofConst, BF.b, bfOf, Cel.sv, Rul.sv, Cel.sum, Cel.ok]; omega) | (simp [Cel.eta, Rul.eta, Grd.eta, den, denL, den_ofConst, BF.b, bfOf, Cel.sv, Rul.sv, Cel.sum, Cel.ok]; (repeat' split) <;> omega) | (simp [Cel.eta, Rul.eta, Grd.eta, den, denL, den_ofConst, BF.b, bfOf, Cel.sv, Rul.sv, Cel.sum, Cel.ok]; rw [Bool.eq_iff_iff]; (repeat' split) <;> simp <;> omega) | (simp [Cel.eta, Rul.eta, Grd.eta, den, denL, den_ofConst, BF.b, bfOf, Cel.sv, Rul.sv, Cel.sum, Cel.ok, *]; done) | (simp [Cel.eta, Rul.eta, Grd.eta, den, denL, den_ofConst, BF.b, bfOf, Cel.sv, Rul.sv, Cel.sum, Cel.ok, *]; omega))
    · exact hK.elim
def G3 : List (Nat × Ctr) := (87, c_cell_sum) :: G2
theorem okG3 : GsOk Try.prog G3 := GsOk.cons k_cell_sum okG2
def c_cell_Valid : Ctr := fun args _ K => match args with
  | [x0] => c1 x0 fun c => K (.bool (.atom (Cel.ok c)))
  | _ => False
noncomputable def X_cell_Valid : Env Try.prog := ⟨Try.f32.ntmps, TT, G3, E0, Try.f32.results.toList, [], TT_ok, okG3, okE0, mixed⟩
theorem k_cell_Valid : COk Try.prog 32 c_cell_Valid :=
  ctr_of_wk X_cell_Valid Try.func32 rfl (by kernel_rfl) rfl rfl fun args hp K hK => by
    unfold c_cell_Valid at hK
    split at hK
    · obtain ⟨c, hK1, e0⟩ := iff_c1 hK; clear hK; have hK := hK1; clear hK1
      refine ⟨[Cel.sv c], [], _, denL_cons (e0.symm) (rfl), trivial, fun _ _ b hb => (by cases hb), hK, Nat.le_of_ble_eq_true rfl, ?_⟩
      clear hK
      repeat' (first | (refine Wk.op ?_; intro K' hK') | (refine Wk.xqOp ?_; intro K' hK') | (refine Wk.rgOne ?_; intro K' hK') | (refine Wk.rgPure ?_; intro K' hK') | (refine Wk.rgX ?_; intro K' hK') | (refine Wk.xqNew ?_; intro K' hK') | (refine Wk.xqEnd ?_) | (refine Wk.rgDone ?_) | (refine Wk.rgTwo ?_ ?_ <;> intro K' hK') | (refine hK' _ _ ?_; clear hK' K') | (refine hK' _ ?_; clear hK' K') | (refine hKT _ ?_; clear hKT hKF KT KF) | (refine hKF _ ?_; clear hKT hKF KT KF) | (refine Wk.cond ?_; intro KT KF hKT hKF) | (refine Wk.ret ?_) | (refine Wk.draw ?_ ?_ ?_; rotate_left 2; (intro K' hK')) | (refine Wk.step rfl ?_) | (refine Wk.done ?_) | (refine Fin.plain trivial ?_) | ((with_reducible refine top_goal ?_); kernel_rfl) | ((with_reducible refine allB_goal ?_); kernel_rfl) | ((with_reducible refine mine_goal ?_); exact mine_of rfl) | ((with_reducible refine withV_goal ?_); refine withV_mk rfl ?_) | ((with_reducible refine hsel_goal ?_); (first | (exact hsel.nil) | (refine hsel.take (HB.like.refl _) (.inr fun _ h => h) ?_) | (refine hsel.take (like_cts ?_) (.inl rfl) ?_) | (refine hsel.skip (spare_own rfl rfl) ?_) | (refine hsel.skip spare_ro ?_))) | (refine And.intro ?_ ?_) | (intro hq; (try simp only [BF.H, Cel.eta, Rul.eta, Grd.eta, if_true, if_false] at hq); (try (exfalso; first | omega | (simp [BF.b] at hq; done)))))
      all_goals (try simp only [Cel.eta, Rul.eta, Grd.eta, if_true, if_false])
      all_goals (first | (with_reducible rfl) | (with_reducible exact trivial) | (with_reducible exact splitN_zero) | ((with_reducible refine fsub_goal ?_); exact trivial) | (with_reducible assumption) | ((with_reducible refine ble_goal ?_); rfl) | omega | skip)
      all_goals (first | (simp [Cel.eta, Rul.eta, Grd.eta, den, denL, den_ofConst, BF.b, bfOf, Cel.sv, Rul.sv, Cel.sum, Cel.ok]; done) | (simp [Cel.eta, Rul.eta, Grd.eta, den, denL, den_ofConst, BF.b, bfOf, Cel.sv, Rul.sv, Cel.sum, Cel.ok]; omega) | (simp [Cel.eta, Rul.eta, Grd.eta, den, denL, den_ofConst, BF.b, bfOf, Cel.sv, Rul.sv, Cel.sum, Cel.ok]; (repeat' split) <;> omega) | (simp [Cel.eta, Rul.eta, Grd.eta, den, denL, den_ofConst, BF.b, bfOf, Cel.sv, Rul.sv, Cel.sum, Cel.ok]; rw [Bool.eq_iff_iff]; (repeat' split) <;> simp <;> omega) | (simp [Cel.eta, Rul.eta, Grd.eta, den, denL, den_ofConst, BF.b, bfOf, Cel.sv, Rul.sv, Cel.sum, Cel.ok, *]; done) | (simp [Cel.eta, Rul.eta, Grd.eta, den, denL, den_ofConst, BF.b, bfOf, Cel.sv, Rul.sv, Cel.sum, Cel.ok, *]; omega))
    · exact hK.elim
def G4 : List (Nat × Ctr) := (32, c_cell_Valid) :: G3
theorem okG4 : GsOk Try.prog G4 := GsOk.cons k_cell_Valid okG3
def c_refA_Valid : Ctr := fun args _ K => match args with
  | [x0] => c1 x0 fun c => K (.bool (.atom (Cel.ok c)))
  | _ => False
noncomputable def X_refA_Valid : Env Try.prog := ⟨Try.f33.ntmps, TT, G4, E0, Try.f33.results.toList, [], TT_ok, okG4, okE0, mixed⟩
theorem k_refA_Valid : COk Try.prog 33 c_refA_Valid :=
  ctr_of_wk X_refA_Valid Try.func33 rfl (by kernel_rfl) rfl rfl fun args hp K hK => by
    unfold c_refA_Valid at hK
    split at hK
    · obtain ⟨c, hK1, e0⟩ := iff_c1 hK; clear hK; have hK := hK1; clear hK1
      refine ⟨[Cel.sv c], [], _, denL_cons (e0.symm) (rfl), trivial, fun _ _ b hb => (by cases hb), hK, Nat.le_of_ble_eq_true rfl, ?_⟩
      clear hK
      repeat' (first | (refine Wk.op ?_; intro K' hK') | (refine Wk.xqOp ?_; intro K' hK') | (refine Wk.rgOne ?_; intro K' hK') | (refine Wk.rgPure ?_; intro K' hK') | (refine Wk.rgX ?_; intro K' hK') | (refine Wk.xqNew ?_; intro K' hK') | (refine Wk.xqEnd ?_) | (refine Wk.rgDone ?_) | (refine Wk.rgTwo ?_ ?_ <;> intro K' hK') | (refine hK' _ _ ?_; clear hK' K') | (refine hK' _ ?_; clear hK' K') | (refine hKT _ ?_; clear hKT hKF KT KF) | (refine hKF _ ?_; clear hKT hKF KT KF) | (refine Wk.cond ?_; intro KT KF hKT hKF) | (refine Wk.ret ?_) | (refine Wk.draw ?_ ?_ ?_; rotate_left 2; (intro K' hK')) | (refine Wk.step rfl ?_) | (refine Wk.rounds (X := X_refA_Valid) (t := .b 0 :: _) 5 ?_) | (refine Wk.done ?_) | (refine Fin.plain trivial ?_) | ((with_reducible refine top_goal ?_); kernel_rfl) | ((with_reducible refine allB_goal ?_); kernel_rfl) | ((with_reducible refine mine_goal ?_); exact mine_of rfl) | ((with_reducible refine withV_goal ?_); refine withV_mk rfl ?_) | ((with_reducible refine hsel_goal ?_); (first | (exact hsel.nil) | (refine hsel.take (HB.like.refl _) (.inr fun _ h => h) ?_) | (refine hsel.take (like_cts ?_) (.inl rfl) ?_) | (refine hsel.skip (spare_own rfl rfl) ?_) | (refine hsel.skip spare_ro ?_))) | (refine And.intro ?_ ?_) | (intro hq; (try simp only [BF.H, Cel.eta, Rul.eta, Grd.eta, if_true, if_false] at hq); (try (exfalso; first | omega | (simp [BF.b] at hq; done)))))
      all_goals (try simp only [Cel.eta, Rul.eta, Grd.eta, if_true, if_false])
      all_goals (first | (with_reducible rfl) | (with_reducible exact trivial) | (with_reducible exact splitN_zero) | ((with_reducible refine fsub_goal ?_); exact trivial) | (with_reducible assumption) | ((with_reducible refine ble_goal ?_); rfl) | omega | skip)
      all_goals (first | (simp [Cel.eta, Rul.eta, Grd.eta, den, denL, den_ofConst, BF.b, bfOf, Cel.sv, Rul.sv, Cel.ok]; done) | (simp [Cel.eta, Rul.eta, Grd.eta, den, denL, den_ofConst, BF.b, bfOf, Cel.sv, Rul.sv, Cel.ok]; omega) | (simp [Cel.eta, Rul.eta, Grd.eta, den, denL, den_ofConst, BF.b, bfOf, Cel.sv, Rul.sv, Cel.ok]; (repeat' split) <;> omega) | (simp [Cel.eta, Rul.eta, Grd.eta, den, denL, den_ofConst, BF.b, bfOf, Cel.sv, Rul.sv, Cel.ok]; rw [Bool.eq_iff_iff]; (repeat' split) <;> simp <;> omega) | (simp [Cel.eta, Rul.eta, Grd.eta, den, denL, den_ofConst, BF.b, bfOf, Cel.sv, Rul.sv, Cel.ok, *]; done) | (simp [Cel.eta, Rul.eta, Grd.eta, den, denL, den_ofConst, BF.b, bfOf, Cel.sv, Rul.sv, Cel.ok, *]; omega))
    · exact hK.elim
def G5 : List (Nat × Ctr) := (33, c_refA_Valid) :: G4
theorem okG5 : GsOk Try.prog G5 := GsOk.cons k_refA_Valid okG4
def c_cell_ValidRule : Ctr := fun args _ K => match args with
  | [x0] => r1 x0 fun r => K (.bool (.atom (Rul.ok r)))
  | _ => False
noncomputable def X_cell_ValidRule : Env Try.prog := ⟨Try.f34.ntmps, TT, G5, E0, Try.f34.results.toList, [], TT_ok, okG5, okE0, mixed⟩
theorem k_cell_ValidRule : COk Try.prog 34 c_cell_ValidRule :=
  ctr_of_wk X_cell_ValidRule Try.func34 rfl (by kernel_rfl) rfl rfl fun args hp K hK => by
    unfold c_cell_ValidRule at hK
    split at hK
    · obtain ⟨r, hK1, e0⟩ := iff_r1 hK; clear hK; have hK := hK1; clear hK1
      refine ⟨[Rul.sv r], [], _, denL_cons (e0.symm) (rfl), trivial, fun _ _ b hb => (by cases hb), hK, Nat.le_of_ble_eq_true rfl, ?_⟩
      clear hK
      repeat' (first | (refine Wk.op ?_; intro K' hK') | (refine Wk.xqOp ?_; intro K' hK') | (refine Wk.rgOne ?_; intro K' hK') | (refine Wk.rgPure ?_; intro K' hK') | (refine Wk.rgX ?_; intro K' hK') | (refine Wk.xqNew ?_; intro K' hK') | (refine Wk.xqEnd ?_) | (refine Wk.rgDone ?_) | (refine Wk.rgTwo ?_ ?_ <;> intro K' hK') | (refine hK' _ _ ?_; clear hK' K') | (refine hK' _ ?_; clear hK' K') | (refine hKT _ ?_; clear hKT hKF KT KF) | (refine hKF _ ?_; clear hKT hKF KT KF) | (refine Wk.cond ?_; intro KT KF hKT hKF) | (refine Wk.ret ?_) | (refine Wk.draw ?_ ?_ ?_; rotate_left 2; (intro K' hK')) | (refine Wk.step rfl ?_) | (refine Wk.done ?_) | (refine Fin.plain trivial ?_) | ((with_reducible refine top_goal ?_); kernel_rfl) | ((with_reducible refine allB_goal ?_); kernel_rfl) | ((with_reducible refine mine_goal ?_); exact mine_of rfl) | ((with_reducible refine withV_goal ?_); refine withV_mk rfl ?_) | ((with_reducible refine hsel_goal ?_); (first | (exact hsel.nil) | (refine hsel.take (HB.like.refl _) (.inr fun _ h => h) ?_) | (refine hsel.take (like_cts ?_) (.inl rfl) ?_) | (refine hsel.skip (spare_own rfl rfl) ?_) | (refine hsel.skip spare_ro ?_))) | (refine And.intro ?_ ?_) | (intro hq; (try simp only [BF.H, Cel.eta, Rul.eta, Grd.eta, if_true, if_false] at hq); (try (exfalso; first | omega | (simp [BF.b] at hq; done)))))
      all_goals (try simp only [Cel.eta, Rul.eta, Grd.eta, if_true, if_false])
      all_goals (first | (with_reducible rfl) | (with_reducible exact trivial) | (with_reducible exact splitN_zero) | ((with_reducible refine fsub_goal ?_); exact trivial) | (with_reducible assumption) | ((with_reducible refine ble_goal ?_); rfl) | omega | skip)
      all_goals (first | (simp [Cel.eta, Rul.eta, Grd.eta, den, denL, den_ofConst, BF.b, bfOf, Cel.sv, Rul.sv, Rul.ok]; done) | (simp [Cel.eta, Rul.eta, Grd.eta, den, denL, den_ofConst, BF.b, bfOf, Cel.sv, Rul.sv, Rul.ok]; omega) | (simp [Cel.eta, Rul.eta, Grd.eta, den, denL, den_ofConst, BF.b, bfOf, Cel.sv, Rul.sv, Rul.ok]; (repeat' split) <;> omega) | (simp [Cel.eta, Rul.eta, Grd.eta, den, denL, den_ofConst, BF.b, bfOf, Cel.sv, Rul.sv, Rul.ok]; rw [Bool.eq_iff_iff]; (repeat' split) <;> simp <;> omega) | (simp [Cel.eta, Rul.eta, Grd.eta, den, denL, den_ofConst, BF.b, bfOf, Cel.sv, Rul.sv, Rul.ok, *]; done) | (simp [Cel.eta, Rul.eta, Grd.eta, den, denL, den_ofConst, BF.b, bfOf, Cel.sv, Rul.sv, Rul.ok, *]; omega))
    · exact hK.elim
def G6 : List (Nat × Ctr) := (34, c_cell_ValidRule) :: G5
theorem okG6 : GsOk Try.prog G6 := GsOk.cons k_cell_ValidRule okG5
def c_cell_pairs : Ctr := fun args _ K => match args with
  | [x0] => c1 x0 fun c => K (.tup [.int .i64 c.h, .int .i64 c.v])
  | _ => False
noncomputable def X_cell_pairs : Env Try.prog := ⟨Try.f84.ntmps, TT, G6, E0, Try.f84.results.toList, [(1, .x [0, 1, 2, 3, 4, 5, 6, 7, 8, 9, 10, 11] [] (.done))], TT_ok, okG6, okE0, mixed⟩
theorem k_cell_pairs : COk Try.prog 84 c_cell_pairs :=
  ctr_of_wk X_cell_pairs Try.func84 rfl (by kernel_rfl) rfl rfl fun args hp K hK => by
    unfold c_cell_pairs at hK
    split at hK
    · obtain ⟨c, hK1, e0⟩ := iff_c1 hK; clear hK; have hK := hK1; clear hK1
      refine ⟨[Cel.sv c], [], _, denL_cons (e0.symm) (rfl), trivial, fun _ _ b hb => (by cases hb), hK, Nat.le_of_ble_eq_true rfl, ?_⟩
      clear hK
      repeat' (first | (refine Wk.op ?_; intro K' hK') | (refine Wk.xqOp ?_; intro K' hK') | (refine Wk.rgOne ?_; intro K' hK') | (refine Wk.rgPure ?_; intro K' hK') | (refine Wk.rgX ?_; intro K' hK') | (refine Wk.xqNew ?_; intro K' hK') | (refine Wk.xqEnd ?_) | (refine Wk.rgDone ?_) | (refine Wk.rgTwo ?_ ?_ <;> intro K' hK') | (refine hK' _ _ ?_; clear hK' K') | (refine hK' _ ?_; clear hK' K') | (refine hKT _ ?_; clear hKT hKF KT KF) | (refine hKF _ ?_; clear hKT hKF KT KF) | (refine Wk.cond ?_; intro KT KF hKT hKF) | (refine Wk.ret ?_) | (refine Wk.draw ?_ ?_ ?_; rotate_left 2; (intro K' hK')) | (refine Wk.step rfl ?_) | (refine Wk.done ?_) | (refine Fin.plain trivial ?_) | ((with_reducible refine top_goal ?_); kernel_rfl) | ((with_reducible refine allB_goal ?_); kernel_rfl) | ((with_reducible refine mine_goal ?_); exact mine_of rfl) | ((with_reducible refine withV_goal ?_); refine withV_mk rfl ?_) | ((with_reducible refine hsel_goal ?_); (first | (exact hsel.nil) | (refine hsel.take (HB.like.refl _) (.inr fun _ h => h) ?_) | (refine hsel.take (like_cts ?_) (.inl rfl) ?_) | (refine hsel.skip (spare_own rfl rfl) ?_) | (refine hsel.skip spare_ro ?_))) | (refine And.intro ?_ ?_) | (intro hq; (try simp only [BF.H, Cel.eta, Rul.eta, Grd.eta, if_true, if_false] at hq); (try (exfalso; first | omega | (simp [BF.b] at hq; done)))))
      all_goals (try simp only [Cel.eta, Rul.eta, Grd.eta, if_true, if_false])
      all_goals (first | (with_reducible rfl) | (with_reducible exact trivial) | (with_reducible exact splitN_zero) | ((with_reducible refine fsub_goal ?_); exact trivial) | (with_reducible assumption) | ((with_reducible refine ble_goal ?_); rfl) | omega | skip)
      all_goals (first | (simp [Cel.eta, Rul.eta, Grd.eta, den, denL, den_ofConst, BF.b, bfOf, Cel.sv, Rul.sv, Cel.h, Cel.v]; done) | (simp [Cel.eta, Rul.eta, Grd.eta, den, denL, den_ofConst, BF.b, bfOf, Cel.sv, Rul.sv, Cel.h, Cel.v]; omega) | (simp [Cel.eta, Rul.eta, Grd.eta, den, denL, den_ofConst, BF.b, bfOf, Cel.sv, Rul.sv, Cel.h, Cel.v]; (repeat' split) <;> omega) | (simp [Cel.eta, Rul.eta, Grd.eta, den, denL, den_ofConst, BF.b, bfOf, Cel.sv, Rul.sv, Cel.h, Cel.v]; rw [Bool.eq_iff_iff]; (repeat' split) <;> simp <;> omega) | (simp [Cel.eta, Rul.eta, Grd.eta, den, denL, den_ofConst, BF.b, bfOf, Cel.sv, Rul.sv, Cel.h, Cel.v, *]; done) | (simp [Cel.eta, Rul.eta, Grd.eta, den, denL, den_ofConst, BF.b, bfOf, Cel.sv, Rul.sv, Cel.h, Cel.v, *]; omega))
    · exact hK.elim
def G7 : List (Nat × Ctr) := (84, c_cell_pairs) :: G6
theorem okG7 : GsOk Try.prog G7 := GsOk.cons k_cell_pairs okG6
def c_cell_placed : Ctr := fun args _ K => match args with
  | [x0, x1] => c1 x0 fun c => i1 x1 fun p => (c.ok = true ∧ 0 ≤ p ∧ p ≤ c.h + c.v) ∧ K (Cel.sv (c.placed p))
  | _ => False
noncomputable def X_cell_placed : Env Try.prog := ⟨Try.f82.ntmps, TT, G7, E0, Try.f82.results.toList, [], TT_ok, okG7, okE0, mixed⟩
theorem k_cell_placed : COk Try.prog 82 c_cell_placed :=
  ctr_of_wk X_cell_placed Try.func82 rfl (by kernel_rfl) rfl rfl fun args hp K hK => by
    unfold c_cell_placed at hK
    split at hK
    · obtain ⟨c, hK1, e0⟩ := iff_c1 hK; clear hK; have hK := hK1; clear hK1
      obtain ⟨p, hK1, e1⟩ := iff_i1 hK; clear hK; have hK := hK1; clear hK1
      obtain ⟨hpre, hK⟩ := hK
      have hf := Cel.facts hpre.1
      refine ⟨[Cel.sv c, .int .i64 p], [], _, denL_cons (e0.symm) (denL_cons (e1.symm) (rfl)), trivial, fun _ _ b hb => (by cases hb), hK, Nat.le_of_ble_eq_true rfl, ?_⟩
      clear hK
      repeat' (first | (refine Wk.op ?_; intro K' hK') | (refine Wk.xqOp ?_; intro K' hK') | (refine Wk.rgOne ?_; intro K' hK') | (refine Wk.rgPure ?_; intro K' hK') | (refine Wk.rgX ?_; intro K' hK') | (refine Wk.xqNew ?_; intro K' hK') | (refine Wk.xqEnd ?_) | (refine Wk.rgDone ?_) | (refine Wk.rgTwo ?_ ?_ <;> intro K' hK') | (refine hK' _ _ ?_; clear hK' K') | (refine hK' _ ?_; clear hK' K') | (refine hKT _ ?_; clear hKT hKF KT KF) | (refine hKF _ ?_; clear hKT hKF KT KF) | (refine Wk.cond ?_; intro KT KF hKT hKF) | (refine Wk.ret ?_) | (refine Wk.draw ?_ ?_ ?_; rotate_left 2; (intro K' hK')) | (refine Wk.step rfl ?_) | (refine Wk.done ?_) | (refine Fin.plain trivial ?_) | ((with_reducible refine top_goal ?_); kernel_rfl) | ((with_reducible refine allB_goal ?_); kernel_rfl) | ((with_reducible refine mine_goal ?_); exact mine_of rfl) | ((with_reducible refine withV_goal ?_); refine withV_mk rfl ?_) | ((with_reducible refine hsel_goal ?_); (first | (exact hsel.nil) | (refine hsel.take (HB.like.refl _) (.inr fun _ h => h) ?_) | (refine hsel.take (like_cts ?_) (.inl rfl) ?_) | (refine hsel.skip (spare_own rfl rfl) ?_) | (refine hsel.skip spare_ro ?_))) | (refine And.intro ?_ ?_) | (intro hq; (try simp only [BF.H, Cel.eta, Rul.eta, Grd.eta, if_true, if_false] at hq); (try (exfalso; first | omega | (simp [BF.b] at hq; done)))))
      all_goals (try simp only [Cel.eta, Rul.eta, Grd.eta, if_true, if_false])
      all_goals (first | (with_reducible rfl) | (with_reducible exact trivial) | (with_reducible exact splitN_zero) | ((with_reducible refine fsub_goal ?_); exact trivial) | (with_reducible assumption) | ((with_reducible refine ble_goal ?_); rfl) | omega | skip)
      all_goals (first | (simp [Cel.eta, Rul.eta, Grd.eta, den, denL, den_ofConst, BF.b, bfOf, Cel.sv, Rul.sv, Cel.placed]; done) | (simp [Cel.eta, Rul.eta, Grd.eta, den, denL, den_ofConst, BF.b, bfOf, Cel.sv, Rul.sv, Cel.placed]; omega) | (simp [Cel.eta, Rul.eta, Grd.eta, den, denL, den_ofConst, BF.b, bfOf, Cel.sv, Rul.sv, Cel.placed]; (repeat' split) <;> omega) | (simp [Cel.eta, Rul.eta, Grd.eta, den, denL, den_ofConst, BF.b, bfOf, Cel.sv, Rul.sv, Cel.placed]; rw [Bool.eq_iff_iff]; (repeat' split) <;> simp <;> omega) | (simp [Cel.eta, Rul.eta, Grd.eta, den, denL, den_ofConst, BF.b, bfOf, Cel.sv, Rul.sv, Cel.placed, *]; done) | (simp [Cel.eta, Rul.eta, Grd.eta, den, denL, den_ofConst, BF.b, bfOf, Cel.sv, Rul.sv, Cel.placed, *]; omega))
    · exact hK.elim
def G8 : List (Nat × Ctr) := (82, c_cell_placed) :: G7
theorem okG8 : GsOk Try.prog G8 := GsOk.cons k_cell_placed okG7
def c_cell_turned_1 : Ctr := fun args _ K => match args with
  | [x0, x1] => i1 x0 fun h => i1 x1 fun a => K (.int .i64 h)
  | _ => False
noncomputable def X_cell_turned_1 : Env Try.prog := ⟨Try.f147.ntmps, TT, G8, E0, Try.f147.results.toList, [], TT_ok, okG8, okE0, mixed⟩
theorem k_cell_turned_1 : COk Try.prog 147 c_cell_turned_1 :=
  ctr_of_wk X_cell_turned_1 Try.func147 rfl (by kernel_rfl) rfl rfl fun args hp K hK => by
    unfold c_cell_turned_1 at hK
    split at hK
    · obtain ⟨h, hK1, e0⟩ := iff_i1 hK; clear hK; have hK := hK1; clear hK1
      obtain ⟨a, hK1, e1⟩ := iff_i1 hK; clear hK; have hK := hK1; clear hK1
      refine ⟨[.int .i64 h, .int .i64 a], [], _, denL_cons (e0.symm) (denL_cons (e1.symm) (rfl)), trivial, fun _ _ b hb => (by cases hb), hK, Nat.le_of_ble_eq_true rfl, ?_⟩
      clear hK
      repeat' (first | (refine Wk.op ?_; intro K' hK') | (refine Wk.xqOp ?_; intro K' hK') | (refine Wk.rgOne ?_; intro K' hK') | (refine Wk.rgPure ?_; intro K' hK') | (refine Wk.rgX ?_; intro K' hK') | (refine Wk.xqNew ?_; intro K' hK') | (refine Wk.xqEnd ?_) | (refine Wk.rgDone ?_) | (refine Wk.rgTwo ?_ ?_ <;> intro K' hK') | (refine hK' _ _ ?_; clear hK' K') | (refine hK' _ ?_; clear hK' K') | (refine hKT _ ?_; clear hKT hKF KT KF) | (refine hKF _ ?_; clear hKT hKF KT KF) | (refine Wk.cond ?_; intro KT KF hKT hKF) | (refine Wk.ret ?_) | (refine Wk.draw ?_ ?_ ?_; rotate_left 2; (intro K' hK')) | (refine Wk.step rfl ?_) | (refine Wk.done ?_) | (refine Fin.plain trivial ?_) | ((with_reducible refine top_goal ?_); kernel_rfl) | ((with_reducible refine allB_goal ?_); kernel_rfl) | ((with_reducible refine mine_goal ?_); exact mine_of rfl) | ((with_reducible refine withV_goal ?_); refine withV_mk rfl ?_) | ((with_reducible refine hsel_goal ?_); (first | (exact hsel.nil) | (refine hsel.take (HB.like.refl _) (.inr fun _ h => h) ?_) | (refine hsel.take (like_cts ?_) (.inl rfl) ?_) | (refine hsel.skip (spare_own rfl rfl) ?_) | (refine hsel.skip spare_ro ?_))) | (refine And.intro ?_ ?_) | (intro hq; (try simp only [BF.H, Cel.eta, Rul.eta, Grd.eta, if_true, if_false] at hq); (try (exfalso; first | omega | (simp [BF.b] at hq; done)))))
      all_goals (try simp only [Cel.eta, Rul.eta, Grd.eta, if_true, if_false])
      all_goals (first | (with_reducible rfl) | (with_reducible exact trivial) | (with_reducible exact splitN_zero) | ((with_reducible refine fsub_goal ?_); exact trivial) | (with_reducible assumption) | ((with_reducible refine ble_goal ?_); rfl) | omega | skip)
      all_goals (first | (simp [Cel.eta, Rul.eta, Grd.eta, den, denL, den_ofConst, BF.b, bfOf, Cel.sv, Rul.sv]; done) | (simp [Cel.eta, Rul.eta, Grd.eta, den, denL, den_ofConst, BF.b, bfOf, Cel.sv, Rul.sv]; omega) | (simp [Cel.eta, Rul.eta, Grd.eta, den, denL, den_ofConst, BF.b, bfOf, Cel.sv, Rul.sv]; (repeat' split) <;> omega) | (simp [Cel.eta, Rul.eta, Grd.eta, den, denL, den_ofConst, BF.b, bfOf, Cel.sv, Rul.sv]; rw [Bool.eq_iff_iff]; (repeat' split) <;> simp <;> omega) | (simp [Cel.eta, Rul.eta, Grd.eta, den, denL, den_ofConst, BF.b, bfOf, Cel.sv, Rul.sv, *]; done) | (simp [Cel.eta, Rul.eta, Grd.eta, den, denL, den_ofConst, BF.b, bfOf, Cel.sv, Rul.sv, *]; omega))
    · exact hK.elim
def G9 : List (Nat × Ctr) := (147, c_cell_turned_1) :: G8
theorem okG9 : GsOk Try.prog G9 := GsOk.cons k_cell_turned_1 okG8
def c_cell_turned_2 : Ctr := fun args _ K => match args with
  | [x0, x1] => i1 x0 fun h => i1 x1 fun a => (0 ≤ h ∧ h ≤ a ∧ a ≤ 1000000000) ∧ K (.int .i64 (a - h))
  | _ => False
noncomputable def X_cell_turned_2 : Env Try.prog := ⟨Try.f148.ntmps, TT, G9, E0, Try.f148.results.toList, [], TT_ok, okG9, okE0, mixed⟩
theorem k_cell_turned_2 : COk Try.prog 148 c_cell_turned_2 :=
  ctr_of_wk X_cell_turned_2 Try.func148 rfl (by kernel_rfl) rfl rfl fun args hp K hK => by
    unfold c_cell_turned_2 at hK
    split at hK
    · obtain ⟨h, hK1, e0⟩ := iff_i1 hK; clear hK; have hK := hK1; clear hK1
      obtain ⟨a, hK1, e1⟩ := iff_i1 hK; clear hK; have hK := hK1; clear hK1
      obtain ⟨hpre, hK⟩ := hK
      refine ⟨[.int .i64 h, .int .i64 a], [], _, denL_cons (e0.symm) (denL_cons (e1.symm) (rfl)), trivial, fun _ _ b hb => (by cases hb), hK, Nat.le_of_ble_eq_true rfl, ?_⟩
      clear hK
      repeat' (first | (refine Wk.op ?_; intro K' hK') | (refine Wk.xqOp ?_; intro K' hK') | (refine Wk.rgOne ?_; intro K' hK') | (refine Wk.rgPure ?_; intro K' hK') | (refine Wk.rgX ?_; intro K' hK') | (refine Wk.xqNew ?_; intro K' hK') | (refine Wk.xqEnd ?_) | (refine Wk.rgDone ?_) | (refine Wk.rgTwo ?_ ?_ <;> intro K' hK') | (refine hK' _ _ ?_; clear hK' K') | (refine hK' _ ?_; clear hK' K') | (refine hKT _ ?_; clear hKT hKF KT KF) | (refine hKF _ ?_; clear hKT hKF KT KF) | (refine Wk.cond ?_; intro KT KF hKT hKF) | (refine Wk.ret ?_) | (refine Wk.draw ?_ ?_ ?_; rotate_left 2; (intro K' hK')) | (refine Wk.step rfl ?_) | (refine Wk.done ?_) | (refine Fin.plain trivial ?_) | ((with_reducible refine top_goal ?_); kernel_rfl) | ((with_reducible refine allB_goal ?_); kernel_rfl) | ((with_reducible refine mine_goal ?_); exact mine_of rfl) | ((with_reducible refine withV_goal ?_); refine withV_mk rfl ?_) | ((with_reducible refine hsel_goal ?_); (first | (exact hsel.nil) | (refine hsel.take (HB.like.refl _) (.inr fun _ h => h) ?_) | (refine hsel.take (like_cts ?_) (.inl rfl) ?_) | (refine hsel.skip (spare_own rfl rfl) ?_) | (refine hsel.skip spare_ro ?_))) | (refine And.intro ?_ ?_) | (intro hq; (try simp only [BF.H, Cel.eta, Rul.eta, Grd.eta, if_true, if_false] at hq); (try (exfalso; first | omega | (simp [BF.b] at hq; done)))))
      all_goals (try simp only [Cel.eta, Rul.eta, Grd.eta, if_true, if_false])
      all_goals (first | (with_reducible rfl) | (with_reducible exact trivial) | (with_reducible exact splitN_zero) | ((with_reducible refine fsub_goal ?_); exact trivial) | (with_reducible assumption) | ((with_reducible refine ble_goal ?_); rfl) | omega | skip)
      all_goals (first | (simp [Cel.eta, Rul.eta, Grd.eta, den, denL, den_ofConst, BF.b, bfOf, Cel.sv, Rul.sv]; done) | (simp [Cel.eta, Rul.eta, Grd.eta, den, denL, den_ofConst, BF.b, bfOf, Cel.sv, Rul.sv]; omega) | (simp [Cel.eta, Rul.eta, Grd.eta, den, denL, den_ofConst, BF.b, bfOf, Cel.sv, Rul.sv]; (repeat' split) <;> omega) | (simp [Cel.eta, Rul.eta, Grd.eta, den, denL, den_ofConst, BF.b, bfOf, Cel.sv, Rul.sv]; rw [Bool.eq_iff_iff]; (repeat' split) <;> simp <;> omega) | (simp [Cel.eta, Rul.eta, Grd.eta, den, denL, den_ofConst, BF.b, bfOf, Cel.sv, Rul.sv, *]; done) | (simp [Cel.eta, Rul.eta, Grd.eta, den, denL, den_ofConst, BF.b, bfOf, Cel.sv, Rul.sv, *]; omega))
    · exact hK.elim
def G10 : List (Nat × Ctr) := (148, c_cell_turned_2) :: G9
theorem okG10 : GsOk Try.prog G10 := GsOk.cons k_cell_turned_2 okG9
def c_cell_turned_3 : Ctr := fun args hp K => match args with
  | [x0, x1, x2] => i1 x0 fun h => i1 x1 fun a => p2 x2 hp fun r => (0 ≤ h ∧ h ≤ a ∧ a ≤ 1000000000 ∧ -1000000000 ≤ r.b ∧ r.b ≤ 1000000000) ∧ K (.int .i64 ((h + r.b) % (a + 1)))
  | _ => False
noncomputable def X_cell_turned_3 : Env Try.prog := ⟨Try.f149.ntmps, TT, G10, E0, Try.f149.results.toList, [], TT_ok, okG10, okE0, mixed⟩
theorem k_cell_turned_3 : COk Try.prog 149 c_cell_turned_3 :=
  ctr_of_wk X_cell_turned_3 Try.func149 rfl (by kernel_rfl) rfl rfl fun args hp K hK => by
    unfold c_cell_turned_3 at hK
    split at hK
    · obtain ⟨h, hK1, e0⟩ := iff_i1 hK; clear hK; have hK := hK1; clear hK1
      obtain ⟨a, hK1, e1⟩ := iff_i1 hK; clear hK; have hK := hK1; clear hK1
      obtain ⟨r, nmr, hK1, e2, vwr⟩ := iff_p2 hK; clear hK; have hK := hK1; clear hK1
      obtain ⟨hpre, hK⟩ := hK
      have ht := adj_tmod (a := h + r.b) (b := a + 1) (by omega)
      have h1 := Int.emod_nonneg (h + r.b) (show a + 1 ≠ 0 by omega)
      have h2 := Int.emod_lt_of_pos (h + r.b) (show 0 < a + 1 by omega)
      have h3 : (h + r.b).tmod (a + 1) = (h + r.b) % (a + 1) ∨ (h + r.b).tmod (a + 1) + (a + 1) = (h + r.b) % (a + 1) ∧ (h + r.b).tmod (a + 1) < 0 := by split at ht <;> omega
      refine ⟨[.int .i64 h, .int .i64 a, .ptr 0 nmr 0 0 0], [⟨some nmr, false, .ro, .l [.int .i64 r.k, .int .i64 r.b]⟩], _, denL_cons (e0.symm) (denL_cons (e1.symm) (denL_cons (e2) (rfl))), ⟨trivial, trivial⟩, fun w hw b hb => (by rw [List.mem_singleton] at hb; subst hb; exact vwr w hw), hK, Nat.le_of_ble_eq_true rfl, ?_⟩
      clear hK
      repeat' (first | (refine Wk.op ?_; intro K' hK') | (refine Wk.xqOp ?_; intro K' hK') | (refine Wk.rgOne ?_; intro K' hK') | (refine Wk.rgPure ?_; intro K' hK') | (refine Wk.rgX ?_; intro K' hK') | (refine Wk.xqNew ?_; intro K' hK') | (refine Wk.xqEnd ?_) | (refine Wk.rgDone ?_) | (refine Wk.rgTwo ?_ ?_ <;> intro K' hK') | (refine hK' _ _ ?_; clear hK' K') | (refine hK' _ ?_; clear hK' K') | (refine hKT _ ?_; clear hKT hKF KT KF) | (refine hKF _ ?_; clear hKT hKF KT KF) | (refine Wk.cond ?_; intro KT KF hKT hKF) | (refine Wk.ret ?_) | (refine Wk.draw ?_ ?_ ?_; rotate_left 2; (intro K' hK')) | (refine Wk.step rfl ?_) | (refine Wk.done ?_) | (refine Fin.plain trivial ?_) | ((with_reducible refine top_goal ?_); kernel_rfl) | ((with_reducible refine allB_goal ?_); kernel_rfl) | ((with_reducible refine mine_goal ?_); exact mine_of rfl) | ((with_reducible refine withV_goal ?_); refine withV_mk rfl ?_) | ((with_reducible refine hsel_goal ?_); (first | (exact hsel.nil) | (refine hsel.take (HB.like.refl _) (.inr fun _ h => h) ?_) | (refine hsel.take (like_cts ?_) (.inl rfl) ?_) | (refine hsel.skip (spare_own rfl rfl) ?_) | (refine hsel.skip spare_ro ?_))) | (refine And.intro ?_ ?_) | (intro hq; (try simp only [BF.H, Cel.eta, Rul.eta, Grd.eta, if_true, if_false] at hq); (try (exfalso; first | omega | (simp [BF.b] at hq; done)))))
      all_goals (try simp only [Cel.eta, Rul.eta, Grd.eta, if_true, if_false])
      all_goals (first | (with_reducible rfl) | (with_reducible exact trivial) | (with_reducible exact splitN_zero) | ((with_reducible refine fsub_goal ?_); exact trivial) | (with_reducible assumption) | ((with_reducible refine ble_goal ?_); rfl) | omega | skip)
      all_goals (simp [den, denL]; split at ht <;> omega)
    · exact hK.elim
def G11 : List (Nat × Ctr) := (149, c_cell_turned_3) :: G10
theorem okG11 : GsOk Try.prog G11 := GsOk.cons k_cell_turned_3 okG10
def c_cell_turned : Ctr := fun args _ K => match args with
  | [x0, x1, x2] => r1 x0 fun r => i1 x1 fun h => i1 x2 fun a => (r.ok = true ∧ 0 ≤ h ∧ h ≤ a ∧ a ≤ 1000000000) ∧ K (.int .i64 (r.turn h a))
  | _ => False
noncomputable def X_cell_turned : Env Try.prog := ⟨Try.f123.ntmps, TT, G11, E0, Try.f123.results.toList, [], TT_ok, okG11, okE0, mixed⟩
theorem k_cell_turned : COk Try.prog 123 c_cell_turned :=
  ctr_of_wk X_cell_turned Try.func123 rfl (by kernel_rfl) rfl rfl fun args hp K hK => by
    unfold c_cell_turned at hK
    split at hK
    · obtain ⟨r, hK1, e0⟩ := iff_r1 hK; clear hK; have hK := hK1; clear hK1
      obtain ⟨h, hK1, e1⟩ := iff_i1 hK; clear hK; have hK := hK1; clear hK1
      obtain ⟨a, hK1, e2⟩ := iff_i1 hK; clear hK; have hK := hK1; clear hK1
      obtain ⟨hpre, hK⟩ := hK
      have hr := Rul.ok_iff.1 hpre.1
      refine ⟨[Rul.sv r, .int .i64 h, .int .i64 a], [], _, denL_cons (e0.symm) (denL_cons (e1.symm) (denL_cons (e2.symm) (rfl))), trivial, fun _ _ b hb => (by cases hb), hK, Nat.le_of_ble_eq_true rfl, ?_⟩
      clear hK
      repeat' (first | (refine Wk.op ?_; intro K' hK') | (refine Wk.xqOp ?_; intro K' hK') | (refine Wk.rgOne ?_; intro K' hK') | (refine Wk.rgPure ?_; intro K' hK') | (refine Wk.rgX ?_; intro K' hK') | (refine Wk.xqNew ?_; intro K' hK') | (refine Wk.xqEnd ?_) | (refine Wk.rgDone ?_) | (refine Wk.rgTwo ?_ ?_ <;> intro K' hK') | (refine hK' _ _ ?_; clear hK' K') | (refine hK' _ ?_; clear hK' K') | (refine hKT _ ?_; clear hKT hKF KT KF) | (refine hKF _ ?_; clear hKT hKF KT KF) | (refine Wk.cond ?_; intro KT KF hKT hKF) | (refine Wk.ret ?_) | (refine Wk.draw ?_ ?_ ?_; rotate_left 2; (intro K' hK')) | (refine Wk.step rfl ?_) | (refine Wk.done ?_) | (refine Fin.plain trivial ?_) | ((with_reducible refine top_goal ?_); kernel_rfl) | ((with_reducible refine allB_goal ?_); kernel_rfl) | ((with_reducible refine mine_goal ?_); exact mine_of rfl) | ((with_reducible refine withV_goal ?_); refine withV_mk rfl ?_) | ((with_reducible refine hsel_goal ?_); (first | (exact hsel.nil) | (refine hsel.take (HB.like.refl _) (.inr fun _ h => h) ?_) | (refine hsel.take (like_cts ?_) (.inl rfl) ?_) | (refine hsel.skip (spare_own rfl rfl) ?_) | (refine hsel.skip spare_ro ?_))) | (refine And.intro ?_ ?_) | (intro hq; (try simp only [BF.H, Cel.eta, Rul.eta, Grd.eta, if_true, if_false] at hq); (try (exfalso; first | omega | (simp [BF.b] at hq; done)))))
      all_goals (try simp only [Cel.eta, Rul.eta, Grd.eta, if_true, if_false])
      all_goals (first | (with_reducible rfl) | (with_reducible exact trivial) | (with_reducible exact splitN_zero) | ((with_reducible refine fsub_goal ?_); exact trivial) | (with_reducible assumption) | ((with_reducible refine ble_goal ?_); rfl) | omega | skip)
      all_goals (first | (simp [Cel.eta, Rul.eta, Grd.eta, den, denL, den_ofConst, BF.b, bfOf, Cel.sv, Rul.sv, Rul.turn]; done) | (simp [Cel.eta, Rul.eta, Grd.eta, den, denL, den_ofConst, BF.b, bfOf, Cel.sv, Rul.sv, Rul.turn]; omega) | (simp [Cel.eta, Rul.eta, Grd.eta, den, denL, den_ofConst, BF.b, bfOf, Cel.sv, Rul.sv, Rul.turn]; (repeat' split) <;> omega) | (simp [Cel.eta, Rul.eta, Grd.eta, den, denL, den_ofConst, BF.b, bfOf, Cel.sv, Rul.sv, Rul.turn]; rw [Bool.eq_iff_iff]; (repeat' split) <;> simp <;> omega) | (simp [Cel.eta, Rul.eta, Grd.eta, den, denL, den_ofConst, BF.b, bfOf, Cel.sv, Rul.sv, Rul.turn, *]; done) | (simp [Cel.eta, Rul.eta, Grd.eta, den, denL, den_ofConst, BF.b, bfOf, Cel.sv, Rul.sv, Rul.turn, *]; omega))
    · exact hK.elim
def G12 : List (Nat × Ctr) := (123, c_cell_turned) :: G11
theorem okG12 : GsOk Try.prog G12 := GsOk.cons k_cell_turned okG11
def c_cell_collided : Ctr := fun args _ K => match args with
  | [x0, x1] => c1 x0 fun c => r1 x1 fun r => (c.ok = true ∧ r.ok = true) ∧ K (Cel.sv (c.after r))
  | _ => False
noncomputable def X_cell_collided : Env Try.prog := ⟨Try.f78.ntmps, TT, G12, E0, Try.f78.results.toList, [(2, .x [0, 1, 2, 3, 4, 5, 6, 7] [] (.one 8 (.done)))], TT_ok, okG12, okE0, mixed⟩
theorem k_cell_collided : COk Try.prog 78 c_cell_collided :=
  ctr_of_wk X_cell_collided Try.func78 rfl (by kernel_rfl) rfl rfl fun args hp K hK => by
    unfold c_cell_collided at hK
    split at hK
    · obtain ⟨c, hK1, e0⟩ := iff_c1 hK; clear hK; have hK := hK1; clear hK1
      obtain ⟨r, hK1, e1⟩ := iff_r1 hK; clear hK; have hK := hK1; clear hK1
      obtain ⟨hpre, hK⟩ := hK
      have hf := Cel.facts hpre.1
      have ht := Cel.turn_range hpre.1 hpre.2
      refine ⟨[Cel.sv c, Rul.sv r], [], _, denL_cons (e0.symm) (denL_cons (e1.symm) (rfl)), trivial, fun _ _ b hb => (by cases hb), hK, Nat.le_of_ble_eq_true rfl, ?_⟩
      clear hK
      repeat' (first | (refine Wk.op ?_; intro K' hK') | (refine Wk.xqOp ?_; intro K' hK') | (refine Wk.rgOne ?_; intro K' hK') | (refine Wk.rgPure ?_; intro K' hK') | (refine Wk.rgX ?_; intro K' hK') | (refine Wk.xqNew ?_; intro K' hK') | (refine Wk.xqEnd ?_) | (refine Wk.rgDone ?_) | (refine Wk.rgTwo ?_ ?_ <;> intro K' hK') | (refine hK' _ _ ?_; clear hK' K') | (refine hK' _ ?_; clear hK' K') | (refine hKT _ ?_; clear hKT hKF KT KF) | (refine hKF _ ?_; clear hKT hKF KT KF) | (refine Wk.cond ?_; intro KT KF hKT hKF) | (refine Wk.ret ?_) | (refine Wk.draw ?_ ?_ ?_; rotate_left 2; (intro K' hK')) | (refine Wk.step rfl ?_) | (refine Wk.done ?_) | (refine Fin.plain trivial ?_) | ((with_reducible refine top_goal ?_); kernel_rfl) | ((with_reducible refine allB_goal ?_); kernel_rfl) | ((with_reducible refine mine_goal ?_); exact mine_of rfl) | ((with_reducible refine withV_goal ?_); refine withV_mk rfl ?_) | ((with_reducible refine hsel_goal ?_); (first | (exact hsel.nil) | (refine hsel.take (HB.like.refl _) (.inr fun _ h => h) ?_) | (refine hsel.take (like_cts ?_) (.inl rfl) ?_) | (refine hsel.skip (spare_own rfl rfl) ?_) | (refine hsel.skip spare_ro ?_))) | (refine And.intro ?_ ?_) | (intro hq; (try simp only [BF.H, Cel.eta, Rul.eta, Grd.eta, if_true, if_false] at hq); (try (exfalso; first | omega | (simp [BF.b] at hq; done)))))
      all_goals (try simp only [Cel.eta, Rul.eta, Grd.eta, if_true, if_false])
      all_goals (first | (with_reducible rfl) | (with_reducible exact trivial) | (with_reducible exact splitN_zero) | ((with_reducible refine fsub_goal ?_); exact trivial) | (with_reducible assumption) | ((with_reducible refine ble_goal ?_); rfl) | omega | skip)
      all_goals (first | (simp [Cel.eta, Rul.eta, Grd.eta, den, denL, den_ofConst, BF.b, bfOf, Cel.sv, Rul.sv, Cel.after]; done) | (simp [Cel.eta, Rul.eta, Grd.eta, den, denL, den_ofConst, BF.b, bfOf, Cel.sv, Rul.sv, Cel.after]; omega) | (simp [Cel.eta, Rul.eta, Grd.eta, den, denL, den_ofConst, BF.b, bfOf, Cel.sv, Rul.sv, Cel.after]; (repeat' split) <;> omega) | (simp [Cel.eta, Rul.eta, Grd.eta, den, denL, den_ofConst, BF.b, bfOf, Cel.sv, Rul.sv, Cel.after]; rw [Bool.eq_iff_iff]; (repeat' split) <;> simp <;> omega) | (simp [Cel.eta, Rul.eta, Grd.eta, den, denL, den_ofConst, BF.b, bfOf, Cel.sv, Rul.sv, Cel.after, *]; done) | (simp [Cel.eta, Rul.eta, Grd.eta, den, denL, den_ofConst, BF.b, bfOf, Cel.sv, Rul.sv, Cel.after, *]; omega))
    · exact hK.elim
def G13 : List (Nat × Ctr) := (78, c_cell_collided) :: G12
theorem okG13 : GsOk Try.prog G13 := GsOk.cons k_cell_collided okG12
def c_cell_Collide : Ctr := fun args _ K => match args with
  | [x0, x1] => c1 x0 fun c => r1 x1 fun r => K (.tup [Cel.sv (c.collide r).1, .int .i64 (c.collide r).2])
  | _ => False
noncomputable def X_cell_Collide : Env Try.prog := ⟨Try.f15.ntmps, TT, G13, E0, Try.f15.results.toList, [], TT_ok, okG13, okE0, mixed⟩
theorem k_cell_Collide : COk Try.prog 15 c_cell_Collide :=
  ctr_of_wk X_cell_Collide Try.func15 rfl (by kernel_rfl) rfl rfl fun args hp K hK => by
    unfold c_cell_Collide at hK
    split at hK
    · obtain ⟨c, hK1, e0⟩ := iff_c1 hK; clear hK; have hK := hK1; clear hK1
      obtain ⟨r, hK1, e1⟩ := iff_r1 hK; clear hK; have hK := hK1; clear hK1
      refine ⟨[Cel.sv c, Rul.sv r], [], _, denL_cons (e0.symm) (denL_cons (e1.symm) (rfl)), trivial, fun _ _ b hb => (by cases hb), hK, Nat.le_of_ble_eq_true rfl, ?_⟩
      clear hK
      repeat' (first | (refine Wk.op ?_; intro K' hK') | (refine Wk.xqOp ?_; intro K' hK') | (refine Wk.rgOne ?_; intro K' hK') | (refine Wk.rgPure ?_; intro K' hK') | (refine Wk.rgX ?_; intro K' hK') | (refine Wk.xqNew ?_; intro K' hK') | (refine Wk.xqEnd ?_) | (refine Wk.rgDone ?_) | (refine Wk.rgTwo ?_ ?_ <;> intro K' hK') | (refine hK' _ _ ?_; clear hK' K') | (refine hK' _ ?_; clear hK' K') | (refine hKT _ ?_; clear hKT hKF KT KF) | (refine hKF _ ?_; clear hKT hKF KT KF) | (refine Wk.cond ?_; intro KT KF hKT hKF) | (refine Wk.ret ?_) | (refine Wk.draw ?_ ?_ ?_; rotate_left 2; (intro K' hK')) | (refine Wk.step rfl ?_) | (refine Wk.done ?_) | (refine Fin.plain trivial ?_) | ((with_reducible refine top_goal ?_); kernel_rfl) | ((with_reducible refine allB_goal ?_); kernel_rfl) | ((with_reducible refine mine_goal ?_); exact mine_of rfl) | ((with_reducible refine withV_goal ?_); refine withV_mk rfl ?_) | ((with_reducible refine hsel_goal ?_); (first | (exact hsel.nil) | (refine hsel.take (HB.like.refl _) (.inr fun _ h => h) ?_) | (refine hsel.take (like_cts ?_) (.inl rfl) ?_) | (refine hsel.skip (spare_own rfl rfl) ?_) | (refine hsel.skip spare_ro ?_))) | (refine And.intro ?_ ?_) | (intro hq; (try simp only [BF.H, Cel.eta, Rul.eta, Grd.eta, if_true, if_false] at hq); (try (exfalso; first | omega | (simp [BF.b] at hq; done)))))
      all_goals (try simp only [Cel.eta, Rul.eta, Grd.eta, if_true, if_false])
      all_goals (first | (with_reducible rfl) | (with_reducible exact trivial) | (with_reducible exact splitN_zero) | ((with_reducible refine fsub_goal ?_); exact trivial) | (with_reducible assumption) | ((with_reducible refine ble_goal ?_); rfl) | omega | skip)
      all_goals (first | (simp [Cel.eta, Rul.eta, Grd.eta, den, denL, den_ofConst, BF.b, bfOf, Cel.sv, Rul.sv, Cel.collide, Cel.zero]; done) | (simp [Cel.eta, Rul.eta, Grd.eta, den, denL, den_ofConst, BF.b, bfOf, Cel.sv, Rul.sv, Cel.collide, Cel.zero]; omega) | (simp [Cel.eta, Rul.eta, Grd.eta, den, denL, den_ofConst, BF.b, bfOf, Cel.sv, Rul.sv, Cel.collide, Cel.zero]; (repeat' split) <;> omega) | (simp [Cel.eta, Rul.eta, Grd.eta, den, denL, den_ofConst, BF.b, bfOf, Cel.sv, Rul.sv, Cel.collide, Cel.zero]; rw [Bool.eq_iff_iff]; (repeat' split) <;> simp <;> omega) | (simp [Cel.eta, Rul.eta, Grd.eta, den, denL, den_ofConst, BF.b, bfOf, Cel.sv, Rul.sv, Cel.collide, Cel.zero, *]; done) | (simp [Cel.eta, Rul.eta, Grd.eta, den, denL, den_ofConst, BF.b, bfOf, Cel.sv, Rul.sv, Cel.collide, Cel.zero, *]; omega))
    · exact hK.elim
def G14 : List (Nat × Ctr) := (15, c_cell_Collide) :: G13
theorem okG14 : GsOk Try.prog G14 := GsOk.cons k_cell_Collide okG13
def c_refA_size : Ctr := fun args _ K => match args with
  | [x0] => i1 x0 fun n => (-9223372036854775807 ≤ n ∧ n ≤ 9223372036854775807) ∧ K (.int .i64 (n.natAbs : Int))
  | _ => False
noncomputable def X_refA_size : Env Try.prog := ⟨Try.f97.ntmps, TT, G14, E0, Try.f97.results.toList, [], TT_ok, okG14, okE0, mixed⟩
theorem k_refA_size : COk Try.prog 97 c_refA_size :=
  ctr_of_wk X_refA_size Try.func97 rfl (by kernel_rfl) rfl rfl fun args hp K hK => by
    unfold c_refA_size at hK
    split at hK
    · obtain ⟨n, hK1, e0⟩ := iff_i1 hK; clear hK; have hK := hK1; clear hK1
      obtain ⟨hpre, hK⟩ := hK
      refine ⟨[.int .i64 n], [], _, denL_cons (e0.symm) (rfl), trivial, fun _ _ b hb => (by cases hb), hK, Nat.le_of_ble_eq_true rfl, ?_⟩
      clear hK
      repeat' (first | (refine Wk.op ?_; intro K' hK') | (refine Wk.xqOp ?_; intro K' hK') | (refine Wk.rgOne ?_; intro K' hK') | (refine Wk.rgPure ?_; intro K' hK') | (refine Wk.rgX ?_; intro K' hK') | (refine Wk.xqNew ?_; intro K' hK') | (refine Wk.xqEnd ?_) | (refine Wk.rgDone ?_) | (refine Wk.rgTwo ?_ ?_ <;> intro K' hK') | (refine hK' _ _ ?_; clear hK' K') | (refine hK' _ ?_; clear hK' K') | (refine hKT _ ?_; clear hKT hKF KT KF) | (refine hKF _ ?_; clear hKT hKF KT KF) | (refine Wk.cond ?_; intro KT KF hKT hKF) | (refine Wk.ret ?_) | (refine Wk.draw ?_ ?_ ?_; rotate_left 2; (intro K' hK')) | (refine Wk.step rfl ?_) | (refine Wk.done ?_) | (refine Fin.plain trivial ?_) | ((with_reducible refine top_goal ?_); kernel_rfl) | ((with_reducible refine allB_goal ?_); kernel_rfl) | ((with_reducible refine mine_goal ?_); exact mine_of rfl) | ((with_reducible refine withV_goal ?_); refine withV_mk rfl ?_) | ((with_reducible refine hsel_goal ?_); (first | (exact hsel.nil) | (refine hsel.take (HB.like.refl _) (.inr fun _ h => h) ?_) | (refine hsel.take (like_cts ?_) (.inl rfl) ?_) | (refine hsel.skip (spare_own rfl rfl) ?_) | (refine hsel.skip spare_ro ?_))) | (refine And.intro ?_ ?_) | (intro hq; (try simp only [BF.H, Cel.eta, Rul.eta, Grd.eta, if_true, if_false] at hq); (try (exfalso; first | omega | (simp [BF.b] at hq; done)))))
      all_goals (try simp only [Cel.eta, Rul.eta, Grd.eta, if_true, if_false])
      all_goals (first | (with_reducible rfl) | (with_reducible exact trivial) | (with_reducible exact splitN_zero) | ((with_reducible refine fsub_goal ?_); exact trivial) | (with_reducible assumption) | ((with_reducible refine ble_goal ?_); rfl) | omega | skip)
      all_goals (first | (simp [Cel.eta, Rul.eta, Grd.eta, den, denL, den_ofConst, BF.b, bfOf, Cel.sv, Rul.sv]; done) | (simp [Cel.eta, Rul.eta, Grd.eta, den, denL, den_ofConst, BF.b, bfOf, Cel.sv, Rul.sv]; omega) | (simp [Cel.eta, Rul.eta, Grd.eta, den, denL, den_ofConst, BF.b, bfOf, Cel.sv, Rul.sv]; (repeat' split) <;> omega) | (simp [Cel.eta, Rul.eta, Grd.eta, den, denL, den_ofConst, BF.b, bfOf, Cel.sv, Rul.sv]; rw [Bool.eq_iff_iff]; (repeat' split) <;> simp <;> omega) | (simp [Cel.eta, Rul.eta, Grd.eta, den, denL, den_ofConst, BF.b, bfOf, Cel.sv, Rul.sv, *]; done) | (simp [Cel.eta, Rul.eta, Grd.eta, den, denL, den_ofConst, BF.b, bfOf, Cel.sv, Rul.sv, *]; omega))
    · exact hK.elim
def G15 : List (Nat × Ctr) := (97, c_refA_size) :: G14
theorem okG15 : GsOk Try.prog G15 := GsOk.cons k_refA_size okG14
def c_refA_least : Ctr := fun args _ K => match args with
  | [x0, x1] => i1 x0 fun a => i1 x1 fun b => K (.int .i64 (min a b))
  | _ => False
noncomputable def X_refA_least : Env Try.prog := ⟨Try.f90.ntmps, TT, G15, E0, Try.f90.results.toList, [], TT_ok, okG15, okE0, mixed⟩
theorem k_refA_least : COk Try.prog 90 c_refA_least :=
  ctr_of_wk X_refA_least Try.func90 rfl (by kernel_rfl) rfl rfl fun args hp K hK => by
    unfold c_refA_least at hK
    split at hK
    · obtain ⟨a, hK1, e0⟩ := iff_i1 hK; clear hK; have hK := hK1; clear hK1
      obtain ⟨b, hK1, e1⟩ := iff_i1 hK; clear hK; have hK := hK1; clear hK1
      refine ⟨[.int .i64 a, .int .i64 b], [], _, denL_cons (e0.symm) (denL_cons (e1.symm) (rfl)), trivial, fun _ _ b hb => (by cases hb), hK, Nat.le_of_ble_eq_true rfl, ?_⟩
      clear hK
      repeat' (first | (refine Wk.op ?_; intro K' hK') | (refine Wk.xqOp ?_; intro K' hK') | (refine Wk.rgOne ?_; intro K' hK') | (refine Wk.rgPure ?_; intro K' hK') | (refine Wk.rgX ?_; intro K' hK') | (refine Wk.xqNew ?_; intro K' hK') | (refine Wk.xqEnd ?_) | (refine Wk.rgDone ?_) | (refine Wk.rgTwo ?_ ?_ <;> intro K' hK') | (refine hK' _ _ ?_; clear hK' K') | (refine hK' _ ?_; clear hK' K') | (refine hKT _ ?_; clear hKT hKF KT KF) | (refine hKF _ ?_; clear hKT hKF KT KF) | (refine Wk.cond ?_; intro KT KF hKT hKF) | (refine Wk.ret ?_) | (refine Wk.draw ?_ ?_ ?_; rotate_left 2; (intro K' hK')) | (refine Wk.step rfl ?_) | (refine Wk.done ?_) | (refine Fin.plain trivial ?_) | ((with_reducible refine top_goal ?_); kernel_rfl) | ((with_reducible refine allB_goal ?_); kernel_rfl) | ((with_reducible refine mine_goal ?_); exact mine_of rfl) | ((with_reducible refine withV_goal ?_); refine withV_mk rfl ?_) | ((with_reducible refine hsel_goal ?_); (first | (exact hsel.nil) | (refine hsel.take (HB.like.refl _) (.inr fun _ h => h) ?_) | (refine hsel.take (like_cts ?_) (.inl rfl) ?_) | (refine hsel.skip (spare_own rfl rfl) ?_) | (refine hsel.skip spare_ro ?_))) | (refine And.intro ?_ ?_) | (intro hq; (try simp only [BF.H, Cel.eta, Rul.eta, Grd.eta, if_true, if_false] at hq); (try (exfalso; first | omega | (simp [BF.b] at hq; done)))))
      all_goals (try simp only [Cel.eta, Rul.eta, Grd.eta, if_true, if_false])
      all_goals (first | (with_reducible rfl) | (with_reducible exact trivial) | (with_reducible exact splitN_zero) | ((with_reducible refine fsub_goal ?_); exact trivial) | (with_reducible assumption) | ((with_reducible refine ble_goal ?_); rfl) | omega | skip)
      all_goals (first | (simp [Cel.eta, Rul.eta, Grd.eta, den, denL, den_ofConst, BF.b, bfOf, Cel.sv, Rul.sv]; done) | (simp [Cel.eta, Rul.eta, Grd.eta, den, denL, den_ofConst, BF.b, bfOf, Cel.sv, Rul.sv]; omega) | (simp [Cel.eta, Rul.eta, Grd.eta, den, denL, den_ofConst, BF.b, bfOf, Cel.sv, Rul.sv]; (repeat' split) <;> omega) | (simp [Cel.eta, Rul.eta, Grd.eta, den, denL, den_ofConst, BF.b, bfOf, Cel.sv, Rul.sv]; rw [Bool.eq_iff_iff]; (repeat' split) <;> simp <;> omega) | (simp [Cel.eta, Rul.eta, Grd.eta, den, denL, den_ofConst, BF.b, bfOf, Cel.sv, Rul.sv, *]; done) | (simp [Cel.eta, Rul.eta, Grd.eta, den, denL, den_ofConst, BF.b, bfOf, Cel.sv, Rul.sv, *]; omega))
    · exact hK.elim
def G16 : List (Nat × Ctr) := (90, c_refA_least) :: G15
theorem okG16 : GsOk Try.prog G16 := GsOk.cons k_refA_least okG15
def c_refA_of : Ctr := fun args _ K => match args with
  | [x0] => c1 x0 fun c => (c.ok = true) ∧ K (Cel.sv c.cls)
  | _ => False
noncomputable def X_refA_of : Env Try.prog := ⟨Try.f83.ntmps, TT, G16, E0, Try.f83.results.toList, [(2, .x [0, 1, 2, 3, 4, 5, 6, 7, 8, 9, 10, 11] [] (.one 12 (.done)))], TT_ok, okG16, okE0, mixed⟩
theorem k_refA_of : COk Try.prog 83 c_refA_of :=
  ctr_of_wk X_refA_of Try.func83 rfl (by kernel_rfl) rfl rfl fun args hp K hK => by
    unfold c_refA_of at hK
    split at hK
    · obtain ⟨c, hK1, e0⟩ := iff_c1 hK; clear hK; have hK := hK1; clear hK1
      obtain ⟨hpre, hK⟩ := hK
      have hf := Cel.facts hpre
      have hd : (c.e + c.n + c.w + c.s - ((c.e - c.w).natAbs : Int) - ((c.n - c.s).natAbs : Int)).tdiv 2 = c.h + c.v := by
        rw [Int.tdiv_eq_ediv_of_nonneg (by omega)]; omega
      refine ⟨[Cel.sv c], [], _, denL_cons (e0.symm) (rfl), trivial, fun _ _ b hb => (by cases hb), hK, Nat.le_of_ble_eq_true rfl, ?_⟩
      clear hK
      repeat' (first | (refine Wk.op ?_; intro K' hK') | (refine Wk.xqOp ?_; intro K' hK') | (refine Wk.rgOne ?_; intro K' hK') | (refine Wk.rgPure ?_; intro K' hK') | (refine Wk.rgX ?_; intro K' hK') | (refine Wk.xqNew ?_; intro K' hK') | (refine Wk.xqEnd ?_) | (refine Wk.rgDone ?_) | (refine Wk.rgTwo ?_ ?_ <;> intro K' hK') | (refine hK' _ _ ?_; clear hK' K') | (refine hK' _ ?_; clear hK' K') | (refine hKT _ ?_; clear hKT hKF KT KF) | (refine hKF _ ?_; clear hKT hKF KT KF) | (refine Wk.cond ?_; intro KT KF hKT hKF) | (refine Wk.ret ?_) | (refine Wk.draw ?_ ?_ ?_; rotate_left 2; (intro K' hK')) | (refine Wk.step rfl ?_) | (refine Wk.done ?_) | (refine Fin.plain trivial ?_) | ((with_reducible refine top_goal ?_); kernel_rfl) | ((with_reducible refine allB_goal ?_); kernel_rfl) | ((with_reducible refine mine_goal ?_); exact mine_of rfl) | ((with_reducible refine withV_goal ?_); refine withV_mk rfl ?_) | ((with_reducible refine hsel_goal ?_); (first | (exact hsel.nil) | (refine hsel.take (HB.like.refl _) (.inr fun _ h => h) ?_) | (refine hsel.take (like_cts ?_) (.inl rfl) ?_) | (refine hsel.skip (spare_own rfl rfl) ?_) | (refine hsel.skip spare_ro ?_))) | (refine And.intro ?_ ?_) | (intro hq; (try simp only [BF.H, Cel.eta, Rul.eta, Grd.eta, if_true, if_false] at hq); (try (exfalso; first | omega | (simp [BF.b] at hq; done)))))
      all_goals (try simp only [Cel.eta, Rul.eta, Grd.eta, if_true, if_false])
      all_goals (first | (with_reducible rfl) | (with_reducible exact trivial) | (with_reducible exact splitN_zero) | ((with_reducible refine fsub_goal ?_); exact trivial) | (with_reducible assumption) | ((with_reducible refine ble_goal ?_); rfl) | omega | skip)
      all_goals (first | (simp [Cel.eta, Rul.eta, Grd.eta, den, denL, den_ofConst, BF.b, bfOf, Cel.sv, Rul.sv, Cel.cls]; done) | (simp [Cel.eta, Rul.eta, Grd.eta, den, denL, den_ofConst, BF.b, bfOf, Cel.sv, Rul.sv, Cel.cls]; omega) | (simp [Cel.eta, Rul.eta, Grd.eta, den, denL, den_ofConst, BF.b, bfOf, Cel.sv, Rul.sv, Cel.cls]; (repeat' split) <;> omega) | (simp [Cel.eta, Rul.eta, Grd.eta, den, denL, den_ofConst, BF.b, bfOf, Cel.sv, Rul.sv, Cel.cls]; rw [Bool.eq_iff_iff]; (repeat' split) <;> simp <;> omega) | (simp [Cel.eta, Rul.eta, Grd.eta, den, denL, den_ofConst, BF.b, bfOf, Cel.sv, Rul.sv, Cel.cls, *]; done) | (simp [Cel.eta, Rul.eta, Grd.eta, den, denL, den_ofConst, BF.b, bfOf, Cel.sv, Rul.sv, Cel.cls, *]; omega))
    · exact hK.elim
def G17 : List (Nat × Ctr) := (83, c_refA_of) :: G16
theorem okG17 : GsOk Try.prog G17 := GsOk.cons k_refA_of okG16
def c_refA_class_at : Ctr := fun args _ K => match args with
  | [x0, x1] => c1 x0 fun x => i1 x1 fun p => (-1000000000 ≤ x.n ∧ x.n ≤ 1000000000 ∧ -1000000000 ≤ x.w ∧ x.w ≤ 1000000000 ∧ 0 ≤ x.s ∧ x.s ≤ 1000000000 ∧ 0 ≤ p ∧ p ≤ 1000000000) ∧ K (Cel.sv (x.clsAt p))
  | _ => False
noncomputable def X_refA_class_at : Env Try.prog := ⟨Try.f96.ntmps, TT, G17, E0, Try.f96.results.toList, [(3, .pure 0 (.pure 2 (.pure 4 (.pure 6 (.two 1 (.pure 3 (.pure 8 (.two 5 (.pure 7 (.one 9 (.one 10 (.one 11 (.done))))) 9 (.one 5 (.one 7 (.one 10 (.one 11 (.done)))))))) 5 (.pure 7 (.one 1 (.one 3 (.one 8 (.one 9 (.one 10 (.one 11 (.done)))))))))))))], TT_ok, okG17, okE0, mixed⟩
set_option maxHeartbeats 4000000 in
theorem k_refA_class_at : COk Try.prog 96 c_refA_class_at :=
  ctr_of_wk X_refA_class_at Try.func96 rfl (by kernel_rfl) rfl rfl fun args hp K hK => by
    unfold c_refA_class_at at hK
    split at hK
    · obtain ⟨x, hK1, e0⟩ := iff_c1 hK; clear hK; have hK := hK1; clear hK1
      obtain ⟨p, hK1, e1⟩ := iff_i1 hK; clear hK; have hK := hK1; clear hK1
      obtain ⟨hpre, hK⟩ := hK
      obtain ⟨h1, h2, h3, h4, h5, h6, h7, h8⟩ := hpre
      refine ⟨[Cel.sv x, .int .i64 p], [], _, denL_cons (e0.symm) (denL_cons (e1.symm) (rfl)), trivial, fun _ _ b hb => (by cases hb), hK, Nat.le_of_ble_eq_true rfl, ?_⟩
      clear hK
      repeat' (first | (refine Wk.join (X := X_refA_class_at) (x := .region 3 _ _) (ι := Unit) (fun u => True) [1, 2, 4, 5] (fun u => []) (fun u => [(2, fun b => ⟨b.nm, b.own, b.kd, .l [.int .i64 p, .int .i64 (x.s - p), .int .i64 p, .int .i64 (x.s - p)]⟩)]) ?_; intro K' hK'; refine hK' _ ?_ ?_ <;> clear hK' K'; rotate_left; (intro i hi; (try obtain ⟨u⟩ := i); have hI : True := hi; clear hi); rotate_left; refine Wk.draw ?_ ?_ ?_; rotate_left 2; (intro K' hK')) | ((with_reducible refine k_goal ?_); refine Wk.k (X := X_refA_class_at) ⟨(), ?_, ?_, ?_⟩) | (refine Wk.op ?_; intro K' hK') | (refine Wk.xqOp ?_; intro K' hK') | (refine Wk.rgOne ?_; intro K' hK') | (refine Wk.rgPure ?_; intro K' hK') | (refine Wk.rgX ?_; intro K' hK') | (refine Wk.xqNew ?_; intro K' hK') | (refine Wk.xqEnd ?_) | (refine Wk.rgDone ?_) | (refine Wk.rgTwo ?_ ?_ <;> intro K' hK') | (refine hK' _ _ ?_; clear hK' K') | (refine hK' _ ?_; clear hK' K') | (refine hKT _ ?_; clear hKT hKF KT KF) | (refine hKF _ ?_; clear hKT hKF KT KF) | (refine Wk.cond ?_; intro KT KF hKT hKF) | (refine Wk.ret ?_) | (refine Wk.draw ?_ ?_ ?_; rotate_left 2; (intro K' hK')) | (refine Wk.step rfl ?_) | (refine Wk.done ?_) | (refine Fin.plain trivial ?_) | ((with_reducible refine top_goal ?_); kernel_rfl) | ((with_reducible refine allB_goal ?_); kernel_rfl) | ((with_reducible refine mine_goal ?_); exact mine_of rfl) | ((with_reducible refine withV_goal ?_); refine withV_mk rfl ?_) | ((with_reducible refine hsel_goal ?_); (first | (exact hsel.nil) | (refine hsel.take (HB.like.refl _) (.inr fun _ h => h) ?_) | (refine hsel.take (like_cts ?_) (.inl rfl) ?_) | (refine hsel.skip (spare_own rfl rfl) ?_) | (refine hsel.skip spare_ro ?_))) | (refine And.intro ?_ ?_) | (intro hq; (try simp only [BF.H, Cel.eta, Rul.eta, Grd.eta, if_true, if_false] at hq); (try (exfalso; first | omega | (simp [BF.b] at hq; done)))))
      all_goals (try simp only [Cel.eta, Rul.eta, Grd.eta, if_true, if_false])
      all_goals (first | (with_reducible rfl) | (with_reducible exact trivial) | (with_reducible exact splitN_zero) | ((with_reducible refine fsub_goal ?_); exact trivial) | (with_reducible assumption) | ((with_reducible refine ble_goal ?_); rfl) | omega | skip)
      all_goals (first | (simp [Cel.eta, Rul.eta, Grd.eta, den, denL, den_ofConst, BF.b, bfOf, Cel.sv, Rul.sv, Cel.clsAt]; done) | (simp [Cel.eta, Rul.eta, Grd.eta, den, denL, den_ofConst, BF.b, bfOf, Cel.sv, Rul.sv, Cel.clsAt]; omega) | (simp [Cel.eta, Rul.eta, Grd.eta, den, denL, den_ofConst, BF.b, bfOf, Cel.sv, Rul.sv, Cel.clsAt]; (repeat' split) <;> omega) | (simp [Cel.eta, Rul.eta, Grd.eta, den, denL, den_ofConst, BF.b, bfOf, Cel.sv, Rul.sv, Cel.clsAt]; rw [Bool.eq_iff_iff]; (repeat' split) <;> simp <;> omega) | (simp [Cel.eta, Rul.eta, Grd.eta, den, denL, den_ofConst, BF.b, bfOf, Cel.sv, Rul.sv, Cel.clsAt, *]; done) | (simp [Cel.eta, Rul.eta, Grd.eta, den, denL, den_ofConst, BF.b, bfOf, Cel.sv, Rul.sv, Cel.clsAt, *]; omega))
    · exact hK.elim
def G18 : List (Nat × Ctr) := (96, c_refA_class_at) :: G17
theorem okG18 : GsOk Try.prog G18 := GsOk.cons k_refA_class_at okG17
def c_lawA_awake : Ctr := fun args _ K => match args with
  | [] => K (.bool .tt)
  | _ => False
noncomputable def X_lawA_awake : Env Try.prog := ⟨Try.f21.ntmps, TT, G18, E0, Try.f21.results.toList, [], TT_ok, okG18, okE0, mixed⟩
theorem k_lawA_awake : COk Try.prog 21 c_lawA_awake :=
  ctr_of_wk X_lawA_awake Try.func21 rfl (by kernel_rfl) rfl rfl fun args hp K hK => by
    unfold c_lawA_awake at hK
    split at hK
    · refine ⟨[], [], _, rfl, trivial, fun _ _ b hb => (by cases hb), hK, Nat.le_of_ble_eq_true rfl, ?_⟩
      clear hK
      have h1 : Cel.collide ⟨5, 2, 3, 4⟩ ⟨1, 0⟩ = (⟨4, 3, 2, 5⟩, 0) := by decide
      have h2 : Cel.collide ⟨5, 2, 3, 4⟩ ⟨2, 4⟩ = (⟨3, 4, 1, 6⟩, 0) := by decide
      repeat' (first | (refine Wk.op ?_; intro K' hK') | (refine Wk.xqOp ?_; intro K' hK') | (refine Wk.rgOne ?_; intro K' hK') | (refine Wk.rgPure ?_; intro K' hK') | (refine Wk.rgX ?_; intro K' hK') | (refine Wk.xqNew ?_; intro K' hK') | (refine Wk.xqEnd ?_) | (refine Wk.rgDone ?_) | (refine Wk.rgTwo ?_ ?_ <;> intro K' hK') | (refine hK' _ _ ?_; clear hK' K') | (refine hK' _ ?_; clear hK' K') | (refine hKT _ ?_; clear hKT hKF KT KF) | (refine hKF _ ?_; clear hKT hKF KT KF) | (refine Wk.cond ?_; intro KT KF hKT hKF) | (refine Wk.ret ?_) | (refine Wk.draw ?_ ?_ ?_; rotate_left 2; (intro K' hK')) | (refine Wk.step rfl ?_) | (refine Wk.done ?_) | (refine Fin.plain trivial ?_) | ((with_reducible refine top_goal ?_); kernel_rfl) | ((with_reducible refine allB_goal ?_); kernel_rfl) | ((with_reducible refine mine_goal ?_); exact mine_of rfl) | ((with_reducible refine withV_goal ?_); refine withV_mk rfl ?_) | ((with_reducible refine hsel_goal ?_); (first | (exact hsel.nil) | (refine hsel.take (HB.like.refl _) (.inr fun _ h => h) ?_) | (refine hsel.take (like_cts ?_) (.inl rfl) ?_) | (refine hsel.skip (spare_own rfl rfl) ?_) | (refine hsel.skip spare_ro ?_))) | (refine And.intro ?_ ?_) | (intro hq; (try simp only [BF.H, Cel.eta, Rul.eta, Grd.eta, if_true, if_false] at hq); (try simp only [h1, h2] at hq); (try (exfalso; first | omega | (simp [BF.b] at hq; done)))))
      all_goals (try simp only [Cel.eta, Rul.eta, Grd.eta, if_true, if_false])
      all_goals (first | (with_reducible rfl) | (with_reducible exact trivial) | (with_reducible exact splitN_zero) | ((with_reducible refine fsub_goal ?_); exact trivial) | (with_reducible assumption) | ((with_reducible refine ble_goal ?_); rfl) | omega | skip)
      all_goals (first | (simp [Cel.eta, Rul.eta, Grd.eta, den, denL, den_ofConst, BF.b, bfOf, Cel.sv, Rul.sv, h1, h2]; done) | (simp [Cel.eta, Rul.eta, Grd.eta, den, denL, den_ofConst, BF.b, bfOf, Cel.sv, Rul.sv, h1, h2]; omega) | (simp [Cel.eta, Rul.eta, Grd.eta, den, denL, den_ofConst, BF.b, bfOf, Cel.sv, Rul.sv, h1, h2]; (repeat' split) <;> omega) | (simp [Cel.eta, Rul.eta, Grd.eta, den, denL, den_ofConst, BF.b, bfOf, Cel.sv, Rul.sv, h1, h2]; rw [Bool.eq_iff_iff]; (repeat' split) <;> simp <;> omega) | (simp [Cel.eta, Rul.eta, Grd.eta, den, denL, den_ofConst, BF.b, bfOf, Cel.sv, Rul.sv, h1, h2, *]; done) | (simp [Cel.eta, Rul.eta, Grd.eta, den, denL, den_ofConst, BF.b, bfOf, Cel.sv, Rul.sv, h1, h2, *]; omega))
    · exact hK.elim
def G19 : List (Nat × Ctr) := (21, c_lawA_awake) :: G18
theorem okG19 : GsOk Try.prog G19 := GsOk.cons k_lawA_awake okG18
def c_cell_Mass : Ctr := fun args _ K => match args with
  | [x0] => c1 x0 fun c => K (.tup [.int .i64 c.mass.1, .int .i64 c.mass.2])
  | _ => False
noncomputable def X_cell_Mass : Env Try.prog := ⟨Try.f30.ntmps, TT, G19, E0, Try.f30.results.toList, [], TT_ok, okG19, okE0, mixed⟩
theorem k_cell_Mass : COk Try.prog 30 c_cell_Mass :=
  ctr_of_wk X_cell_Mass Try.func30 rfl (by kernel_rfl) rfl rfl fun args hp K hK => by
    unfold c_cell_Mass at hK
    split at hK
    · obtain ⟨c, hK1, e0⟩ := iff_c1 hK; clear hK; have hK := hK1; clear hK1
      refine ⟨[Cel.sv c], [], _, denL_cons (e0.symm) (rfl), trivial, fun _ _ b hb => (by cases hb), hK, Nat.le_of_ble_eq_true rfl, ?_⟩
      clear hK
      repeat' (first | (refine Wk.op ?_; intro K' hK') | (refine Wk.xqOp ?_; intro K' hK') | (refine Wk.rgOne ?_; intro K' hK') | (refine Wk.rgPure ?_; intro K' hK') | (refine Wk.rgX ?_; intro K' hK') | (refine Wk.xqNew ?_; intro K' hK') | (refine Wk.xqEnd ?_) | (refine Wk.rgDone ?_) | (refine Wk.rgTwo ?_ ?_ <;> intro K' hK') | (refine hK' _ _ ?_; clear hK' K') | (refine hK' _ ?_; clear hK' K') | (refine hKT _ ?_; clear hKT hKF KT KF) | (refine hKF _ ?_; clear hKT hKF KT KF) | (refine Wk.cond ?_; intro KT KF hKT hKF) | (refine Wk.ret ?_) | (refine Wk.draw ?_ ?_ ?_; rotate_left 2; (intro K' hK')) | (refine Wk.step rfl ?_) | (refine Wk.done ?_) | (refine Fin.plain trivial ?_) | ((with_reducible refine top_goal ?_); kernel_rfl) | ((with_reducible refine allB_goal ?_); kernel_rfl) | ((with_reducible refine mine_goal ?_); exact mine_of rfl) | ((with_reducible refine withV_goal ?_); refine withV_mk rfl ?_) | ((with_reducible refine hsel_goal ?_); (first | (exact hsel.nil) | (refine hsel.take (HB.like.refl _) (.inr fun _ h => h) ?_) | (refine hsel.take (like_cts ?_) (.inl rfl) ?_) | (refine hsel.skip (spare_own rfl rfl) ?_) | (refine hsel.skip spare_ro ?_))) | (refine And.intro ?_ ?_) | (intro hq; (try simp only [BF.H, Cel.eta, Rul.eta, Grd.eta, if_true, if_false] at hq); (try (exfalso; first | omega | (simp [BF.b] at hq; done)))))
      all_goals (try simp only [Cel.eta, Rul.eta, Grd.eta, if_true, if_false])
      all_goals (first | (with_reducible rfl) | (with_reducible exact trivial) | (with_reducible exact splitN_zero) | ((with_reducible refine fsub_goal ?_); exact trivial) | (with_reducible assumption) | ((with_reducible refine ble_goal ?_); rfl) | omega | skip)
      all_goals (first | (have h9 := Cel.facts (by assumption); (first | omega | (simp [Cel.eta, Rul.eta, Grd.eta, den, denL, den_ofConst, BF.b, bfOf, Cel.sv, Rul.sv, Cel.mass, Cel.sum, Cel.cls, *]; done) | (simp [Cel.eta, Rul.eta, Grd.eta, den, denL, den_ofConst, BF.b, bfOf, Cel.sv, Rul.sv, Cel.mass, Cel.sum, Cel.cls, *]; omega))) | (simp [Cel.eta, Rul.eta, Grd.eta, den, denL, den_ofConst, BF.b, bfOf, Cel.sv, Rul.sv, Cel.mass, Cel.sum, Cel.cls]; done) | (simp [Cel.eta, Rul.eta, Grd.eta, den, denL, den_ofConst, BF.b, bfOf, Cel.sv, Rul.sv, Cel.mass, Cel.sum, Cel.cls]; omega) | (simp [Cel.eta, Rul.eta, Grd.eta, den, denL, den_ofConst, BF.b, bfOf, Cel.sv, Rul.sv, Cel.mass, Cel.sum, Cel.cls]; (repeat' split) <;> omega) | (simp [Cel.eta, Rul.eta, Grd.eta, den, denL, den_ofConst, BF.b, bfOf, Cel.sv, Rul.sv, Cel.mass, Cel.sum, Cel.cls]; rw [Bool.eq_iff_iff]; (repeat' split) <;> simp <;> omega) | (simp [Cel.eta, Rul.eta, Grd.eta, den, denL, den_ofConst, BF.b, bfOf, Cel.sv, Rul.sv, Cel.mass, Cel.sum, Cel.cls, *]; done) | (simp [Cel.eta, Rul.eta, Grd.eta, den, denL, den_ofConst, BF.b, bfOf, Cel.sv, Rul.sv, Cel.mass, Cel.sum, Cel.cls, *]; omega))
    · exact hK.elim
def G20 : List (Nat × Ctr) := (30, c_cell_Mass) :: G19
theorem okG20 : GsOk Try.prog G20 := GsOk.cons k_cell_Mass okG19
def c_cell_Momentum : Ctr := fun args _ K => match args with
  | [x0] => c1 x0 fun c => K (.tup [.int .i64 c.mom.1, .int .i64 c.mom.2.1, .int .i64 c.mom.2.2])
  | _ => False
noncomputable def X_cell_Momentum : Env Try.prog := ⟨Try.f36.ntmps, TT, G20, E0, Try.f36.results.toList, [(3, .x [0, 1, 2, 3, 4, 5, 6, 7, 8, 9, 10, 11, 12] [] (.done))], TT_ok, okG20, okE0, mixed⟩
theorem k_cell_Momentum : COk Try.prog 36 c_cell_Momentum :=
  ctr_of_wk X_cell_Momentum Try.func36 rfl (by kernel_rfl) rfl rfl fun args hp K hK => by
    unfold c_cell_Momentum at hK
    split at hK
    · obtain ⟨c, hK1, e0⟩ := iff_c1 hK; clear hK; have hK := hK1; clear hK1
      refine ⟨[Cel.sv c], [], _, denL_cons (e0.symm) (rfl), trivial, fun _ _ b hb => (by cases hb), hK, Nat.le_of_ble_eq_true rfl, ?_⟩
      clear hK
      repeat' (first | (refine Wk.op ?_; intro K' hK') | (refine Wk.xqOp ?_; intro K' hK') | (refine Wk.rgOne ?_; intro K' hK') | (refine Wk.rgPure ?_; intro K' hK') | (refine Wk.rgX ?_; intro K' hK') | (refine Wk.xqNew ?_; intro K' hK') | (refine Wk.xqEnd ?_) | (refine Wk.rgDone ?_) | (refine Wk.rgTwo ?_ ?_ <;> intro K' hK') | (refine hK' _ _ ?_; clear hK' K') | (refine hK' _ ?_; clear hK' K') | (refine hKT _ ?_; clear hKT hKF KT KF) | (refine hKF _ ?_; clear hKT hKF KT KF) | (refine Wk.cond ?_; intro KT KF hKT hKF) | (refine Wk.ret ?_) | (refine Wk.draw ?_ ?_ ?_; rotate_left 2; (intro K' hK')) | (refine Wk.step rfl ?_) | (refine Wk.done ?_) | (refine Fin.plain trivial ?_) | ((with_reducible refine top_goal ?_); kernel_rfl) | ((with_reducible refine allB_goal ?_); kernel_rfl) | ((with_reducible refine mine_goal ?_); exact mine_of rfl) | ((with_reducible refine withV_goal ?_); refine withV_mk rfl ?_) | ((with_reducible refine hsel_goal ?_); (first | (exact hsel.nil) | (refine hsel.take (HB.like.refl _) (.inr fun _ h => h) ?_) | (refine hsel.take (like_cts ?_) (.inl rfl) ?_) | (refine hsel.skip (spare_own rfl rfl) ?_) | (refine hsel.skip spare_ro ?_))) | (refine And.intro ?_ ?_) | (intro hq; (try simp only [BF.H, Cel.eta, Rul.eta, Grd.eta, if_true, if_false] at hq); (try (exfalso; first | omega | (simp [BF.b] at hq; done)))))
      all_goals (try simp only [Cel.eta, Rul.eta, Grd.eta, if_true, if_false])
      all_goals (first | (with_reducible rfl) | (with_reducible exact trivial) | (with_reducible exact splitN_zero) | ((with_reducible refine fsub_goal ?_); exact trivial) | (with_reducible assumption) | ((with_reducible refine ble_goal ?_); rfl) | omega | skip)
      all_goals (first | (have h9 := Cel.facts (by assumption); (first | omega | (simp [Cel.eta, Rul.eta, Grd.eta, den, denL, den_ofConst, BF.b, bfOf, Cel.sv, Rul.sv, Cel.mom, Cel.cls, *]; done) | (simp [Cel.eta, Rul.eta, Grd.eta, den, denL, den_ofConst, BF.b, bfOf, Cel.sv, Rul.sv, Cel.mom, Cel.cls, *]; omega))) | (simp [Cel.eta, Rul.eta, Grd.eta, den, denL, den_ofConst, BF.b, bfOf, Cel.sv, Rul.sv, Cel.mom, Cel.cls]; done) | (simp [Cel.eta, Rul.eta, Grd.eta, den, denL, den_ofConst, BF.b, bfOf, Cel.sv, Rul.sv, Cel.mom, Cel.cls]; omega) | (simp [Cel.eta, Rul.eta, Grd.eta, den, denL, den_ofConst, BF.b, bfOf, Cel.sv, Rul.sv, Cel.mom, Cel.cls]; (repeat' split) <;> omega) | (simp [Cel.eta, Rul.eta, Grd.eta, den, denL, den_ofConst, BF.b, bfOf, Cel.sv, Rul.sv, Cel.mom, Cel.cls]; rw [Bool.eq_iff_iff]; (repeat' split) <;> simp <;> omega) | (simp [Cel.eta, Rul.eta, Grd.eta, den, denL, den_ofConst, BF.b, bfOf, Cel.sv, Rul.sv, Cel.mom, Cel.cls, *]; done) | (simp [Cel.eta, Rul.eta, Grd.eta, den, denL, den_ofConst, BF.b, bfOf, Cel.sv, Rul.sv, Cel.mom, Cel.cls, *]; omega))
    · exact hK.elim
def G21 : List (Nat × Ctr) := (36, c_cell_Momentum) :: G20
theorem okG21 : GsOk Try.prog G21 := GsOk.cons k_cell_Momentum okG20
def c_cell_Norm : Ctr := fun args _ K => match args with
  | [x0] => c1 x0 fun c => K (.tup [Cel.sv c.norm.1, .int .i64 c.norm.2])
  | _ => False
noncomputable def X_cell_Norm : Env Try.prog := ⟨Try.f24.ntmps, TT, G21, E0, Try.f24.results.toList, [], TT_ok, okG21, okE0, mixed⟩
theorem k_cell_Norm : COk Try.prog 24 c_cell_Norm :=
  ctr_of_wk X_cell_Norm Try.func24 rfl (by kernel_rfl) rfl rfl fun args hp K hK => by
    unfold c_cell_Norm at hK
    split at hK
    · obtain ⟨c, hK1, e0⟩ := iff_c1 hK; clear hK; have hK := hK1; clear hK1
      refine ⟨[Cel.sv c], [], _, denL_cons (e0.symm) (rfl), trivial, fun _ _ b hb => (by cases hb), hK, Nat.le_of_ble_eq_true rfl, ?_⟩
      clear hK
      repeat' (first | (refine Wk.op ?_; intro K' hK') | (refine Wk.xqOp ?_; intro K' hK') | (refine Wk.rgOne ?_; intro K' hK') | (refine Wk.rgPure ?_; intro K' hK') | (refine Wk.rgX ?_; intro K' hK') | (refine Wk.xqNew ?_; intro K' hK') | (refine Wk.xqEnd ?_) | (refine Wk.rgDone ?_) | (refine Wk.rgTwo ?_ ?_ <;> intro K' hK') | (refine hK' _ _ ?_; clear hK' K') | (refine hK' _ ?_; clear hK' K') | (refine hKT _ ?_; clear hKT hKF KT KF) | (refine hKF _ ?_; clear hKT hKF KT KF) | (refine Wk.cond ?_; intro KT KF hKT hKF) | (refine Wk.ret ?_) | (refine Wk.draw ?_ ?_ ?_; rotate_left 2; (intro K' hK')) | (refine Wk.step rfl ?_) | (refine Wk.done ?_) | (refine Fin.plain trivial ?_) | ((with_reducible refine top_goal ?_); kernel_rfl) | ((with_reducible refine allB_goal ?_); kernel_rfl) | ((with_reducible refine mine_goal ?_); exact mine_of rfl) | ((with_reducible refine withV_goal ?_); refine withV_mk rfl ?_) | ((with_reducible refine hsel_goal ?_); (first | (exact hsel.nil) | (refine hsel.take (HB.like.refl _) (.inr fun _ h => h) ?_) | (refine hsel.take (like_cts ?_) (.inl rfl) ?_) | (refine hsel.skip (spare_own rfl rfl) ?_) | (refine hsel.skip spare_ro ?_))) | (refine And.intro ?_ ?_) | (intro hq; (try simp only [BF.H, Cel.eta, Rul.eta, Grd.eta, if_true, if_false] at hq); (try (exfalso; first | omega | (simp [BF.b] at hq; done)))))
      all_goals (try simp only [Cel.eta, Rul.eta, Grd.eta, if_true, if_false])
      all_goals (first | (with_reducible rfl) | (with_reducible exact trivial) | (with_reducible exact splitN_zero) | ((with_reducible refine fsub_goal ?_); exact trivial) | (with_reducible assumption) | ((with_reducible refine ble_goal ?_); rfl) | omega | skip)
      all_goals (first | (have h9 := Cel.facts (by assumption); (first | omega | (simp [Cel.eta, Rul.eta, Grd.eta, den, denL, den_ofConst, BF.b, bfOf, Cel.sv, Rul.sv, Cel.norm, Cel.zero, *]; done) | (simp [Cel.eta, Rul.eta, Grd.eta, den, denL, den_ofConst, BF.b, bfOf, Cel.sv, Rul.sv, Cel.norm, Cel.zero, *]; omega))) | (simp [Cel.eta, Rul.eta, Grd.eta, den, denL, den_ofConst, BF.b, bfOf, Cel.sv, Rul.sv, Cel.norm, Cel.zero]; done) | (simp [Cel.eta, Rul.eta, Grd.eta, den, denL, den_ofConst, BF.b, bfOf, Cel.sv, Rul.sv, Cel.norm, Cel.zero]; omega) | (simp [Cel.eta, Rul.eta, Grd.eta, den, denL, den_ofConst, BF.b, bfOf, Cel.sv, Rul.sv, Cel.norm, Cel.zero]; (repeat' split) <;> omega) | (simp [Cel.eta, Rul.eta, Grd.eta, den, denL, den_ofConst, BF.b, bfOf, Cel.sv, Rul.sv, Cel.norm, Cel.zero]; rw [Bool.eq_iff_iff]; (repeat' split) <;> simp <;> omega) | (simp [Cel.eta, Rul.eta, Grd.eta, den, denL, den_ofConst, BF.b, bfOf, Cel.sv, Rul.sv, Cel.norm, Cel.zero, *]; done) | (simp [Cel.eta, Rul.eta, Grd.eta, den, denL, den_ofConst, BF.b, bfOf, Cel.sv, Rul.sv, Cel.norm, Cel.zero, *]; omega))
    · exact hK.elim
def G22 : List (Nat × Ctr) := (24, c_cell_Norm) :: G21
theorem okG22 : GsOk Try.prog G22 := GsOk.cons k_cell_Norm okG21
def c_cell_Place : Ctr := fun args _ K => match args with
  | [x0] => c1 x0 fun c => K (.tup [.int .i64 c.place.1, .int .i64 c.place.2.1, .int .i64 c.place.2.2])
  | _ => False
noncomputable def X_cell_Place : Env Try.prog := ⟨Try.f25.ntmps, TT, G22, E0, Try.f25.results.toList, [], TT_ok, okG22, okE0, mixed⟩
theorem k_cell_Place : COk Try.prog 25 c_cell_Place :=
  ctr_of_wk X_cell_Place Try.func25 rfl (by kernel_rfl) rfl rfl fun args hp K hK => by
    unfold c_cell_Place at hK
    split at hK
    · obtain ⟨c, hK1, e0⟩ := iff_c1 hK; clear hK; have hK := hK1; clear hK1
      refine ⟨[Cel.sv c], [], _, denL_cons (e0.symm) (rfl), trivial, fun _ _ b hb => (by cases hb), hK, Nat.le_of_ble_eq_true rfl, ?_⟩
      clear hK
      repeat' (first | (refine Wk.op ?_; intro K' hK') | (refine Wk.xqOp ?_; intro K' hK') | (refine Wk.rgOne ?_; intro K' hK') | (refine Wk.rgPure ?_; intro K' hK') | (refine Wk.rgX ?_; intro K' hK') | (refine Wk.xqNew ?_; intro K' hK') | (refine Wk.xqEnd ?_) | (refine Wk.rgDone ?_) | (refine Wk.rgTwo ?_ ?_ <;> intro K' hK') | (refine hK' _ _ ?_; clear hK' K') | (refine hK' _ ?_; clear hK' K') | (refine hKT _ ?_; clear hKT hKF KT KF) | (refine hKF _ ?_; clear hKT hKF KT KF) | (refine Wk.cond ?_; intro KT KF hKT hKF) | (refine Wk.ret ?_) | (refine Wk.draw ?_ ?_ ?_; rotate_left 2; (intro K' hK')) | (refine Wk.step rfl ?_) | (refine Wk.done ?_) | (refine Fin.plain trivial ?_) | ((with_reducible refine top_goal ?_); kernel_rfl) | ((with_reducible refine allB_goal ?_); kernel_rfl) | ((with_reducible refine mine_goal ?_); exact mine_of rfl) | ((with_reducible refine withV_goal ?_); refine withV_mk rfl ?_) | ((with_reducible refine hsel_goal ?_); (first | (exact hsel.nil) | (refine hsel.take (HB.like.refl _) (.inr fun _ h => h) ?_) | (refine hsel.take (like_cts ?_) (.inl rfl) ?_) | (refine hsel.skip (spare_own rfl rfl) ?_) | (refine hsel.skip spare_ro ?_))) | (refine And.intro ?_ ?_) | (intro hq; (try simp only [BF.H, Cel.eta, Rul.eta, Grd.eta, if_true, if_false] at hq); (try (exfalso; first | omega | (simp [BF.b] at hq; done)))))
      all_goals (try simp only [Cel.eta, Rul.eta, Grd.eta, if_true, if_false])
      all_goals (first | (with_reducible rfl) | (with_reducible exact trivial) | (with_reducible exact splitN_zero) | ((with_reducible refine fsub_goal ?_); exact trivial) | (with_reducible assumption) | ((with_reducible refine ble_goal ?_); rfl) | omega | skip)
      all_goals (first | (have h9 := Cel.facts (by assumption); (first | omega | (simp [Cel.eta, Rul.eta, Grd.eta, den, denL, den_ofConst, BF.b, bfOf, Cel.sv, Rul.sv, Cel.place, Cel.h, Cel.cls, *]; done) | (simp [Cel.eta, Rul.eta, Grd.eta, den, denL, den_ofConst, BF.b, bfOf, Cel.sv, Rul.sv, Cel.place, Cel.h, Cel.cls, *]; omega))) | (simp [Cel.eta, Rul.eta, Grd.eta, den, denL, den_ofConst, BF.b, bfOf, Cel.sv, Rul.sv, Cel.place, Cel.h, Cel.cls]; done) | (simp [Cel.eta, Rul.eta, Grd.eta, den, denL, den_ofConst, BF.b, bfOf, Cel.sv, Rul.sv, Cel.place, Cel.h, Cel.cls]; omega) | (simp [Cel.eta, Rul.eta, Grd.eta, den, denL, den_ofConst, BF.b, bfOf, Cel.sv, Rul.sv, Cel.place, Cel.h, Cel.cls]; (repeat' split) <;> omega) | (simp [Cel.eta, Rul.eta, Grd.eta, den, denL, den_ofConst, BF.b, bfOf, Cel.sv, Rul.sv, Cel.place, Cel.h, Cel.cls]; rw [Bool.eq_iff_iff]; (repeat' split) <;> simp <;> omega) | (simp [Cel.eta, Rul.eta, Grd.eta, den, denL, den_ofConst, BF.b, bfOf, Cel.sv, Rul.sv, Cel.place, Cel.h, Cel.cls, *]; done) | (simp [Cel.eta, Rul.eta, Grd.eta, den, denL, den_ofConst, BF.b, bfOf, Cel.sv, Rul.sv, Cel.place, Cel.h, Cel.cls, *]; omega))
    · exact hK.elim
def G23 : List (Nat × Ctr) := (25, c_cell_Place) :: G22
theorem okG23 : GsOk Try.prog G23 := GsOk.cons k_cell_Place okG22
def c_refA_Norm : Ctr := fun args _ K => match args with
  | [x0] => c1 x0 fun c => K (.tup [Cel.sv c.norm.1, .int .i64 c.norm.2])
  | _ => False
noncomputable def X_refA_Norm : Env Try.prog := ⟨Try.f50.ntmps, TT, G23, E0, Try.f50.results.toList, [], TT_ok, okG23, okE0, mixed⟩
theorem k_refA_Norm : COk Try.prog 50 c_refA_Norm :=
  ctr_of_wk X_refA_Norm Try.func50 rfl (by kernel_rfl) rfl rfl fun args hp K hK => by
    unfold c_refA_Norm at hK
    split at hK
    · obtain ⟨c, hK1, e0⟩ := iff_c1 hK; clear hK; have hK := hK1; clear hK1
      refine ⟨[Cel.sv c], [], _, denL_cons (e0.symm) (rfl), trivial, fun _ _ b hb => (by cases hb), hK, Nat.le_of_ble_eq_true rfl, ?_⟩
      clear hK
      repeat' (first | (refine Wk.op ?_; intro K' hK') | (refine Wk.xqOp ?_; intro K' hK') | (refine Wk.rgOne ?_; intro K' hK') | (refine Wk.rgPure ?_; intro K' hK') | (refine Wk.rgX ?_; intro K' hK') | (refine Wk.xqNew ?_; intro K' hK') | (refine Wk.xqEnd ?_) | (refine Wk.rgDone ?_) | (refine Wk.rgTwo ?_ ?_ <;> intro K' hK') | (refine hK' _ _ ?_; clear hK' K') | (refine hK' _ ?_; clear hK' K') | (refine hKT _ ?_; clear hKT hKF KT KF) | (refine hKF _ ?_; clear hKT hKF KT KF) | (refine Wk.cond ?_; intro KT KF hKT hKF) | (refine Wk.ret ?_) | (refine Wk.draw ?_ ?_ ?_; rotate_left 2; (intro K' hK')) | (refine Wk.step rfl ?_) | (refine Wk.done ?_) | (refine Fin.plain trivial ?_) | ((with_reducible refine top_goal ?_); kernel_rfl) | ((with_reducible refine allB_goal ?_); kernel_rfl) | ((with_reducible refine mine_goal ?_); exact mine_of rfl) | ((with_reducible refine withV_goal ?_); refine withV_mk rfl ?_) | ((with_reducible refine hsel_goal ?_); (first | (exact hsel.nil) | (refine hsel.take (HB.like.refl _) (.inr fun _ h => h) ?_) | (refine hsel.take (like_cts ?_) (.inl rfl) ?_) | (refine hsel.skip (spare_own rfl rfl) ?_) | (refine hsel.skip spare_ro ?_))) | (refine And.intro ?_ ?_) | (intro hq; (try simp only [BF.H, Cel.eta, Rul.eta, Grd.eta, if_true, if_false] at hq); (try (exfalso; first | omega | (simp [BF.b] at hq; done)))))
      all_goals (try simp only [Cel.eta, Rul.eta, Grd.eta, if_true, if_false])
      all_goals (first | (with_reducible rfl) | (with_reducible exact trivial) | (with_reducible exact splitN_zero) | ((with_reducible refine fsub_goal ?_); exact trivial) | (with_reducible assumption) | ((with_reducible refine ble_goal ?_); rfl) | omega | skip)
      all_goals (first | exact hpre | (have h9 := Cel.facts (by assumption); simp only [Cel.cls]; omega) | (have h8 := Cel.clsAt_cls (p := 0) (c := c) (by assumption); simp [den, denL, den_ofConst, Cel.norm, Cel.zero, Cel.sv, *] ; done) | (simp [den, denL, den_ofConst, Cel.norm, Cel.zero, Cel.sv, *] ; done))
    · exact hK.elim
def G24 : List (Nat × Ctr) := (50, c_refA_Norm) :: G23
theorem okG24 : GsOk Try.prog G24 := GsOk.cons k_refA_Norm okG23
def c_refA_Place : Ctr := fun args _ K => match args with
  | [x0] => c1 x0 fun c => K (.tup [.int .i64 c.place.1, .int .i64 c.place.2.1, .int .i64 c.place.2.2])
  | _ => False
noncomputable def X_refA_Place : Env Try.prog := ⟨Try.f51.ntmps, TT, G24, E0, Try.f51.results.toList, [(3, .x [0, 1, 2, 3, 4, 5, 6, 7, 8, 9, 10, 11] [] (.done))], TT_ok, okG24, okE0, mixed⟩
theorem k_refA_Place : COk Try.prog 51 c_refA_Place :=
  ctr_of_wk X_refA_Place Try.func51 rfl (by kernel_rfl) rfl rfl fun args hp K hK => by
    unfold c_refA_Place at hK
    split at hK
    · obtain ⟨c, hK1, e0⟩ := iff_c1 hK; clear hK; have hK := hK1; clear hK1
      refine ⟨[Cel.sv c], [], _, denL_cons (e0.symm) (rfl), trivial, fun _ _ b hb => (by cases hb), hK, Nat.le_of_ble_eq_true rfl, ?_⟩
      clear hK
      repeat' (first | (refine Wk.op ?_; intro K' hK') | (refine Wk.xqOp ?_; intro K' hK') | (refine Wk.rgOne ?_; intro K' hK') | (refine Wk.rgPure ?_; intro K' hK') | (refine Wk.rgX ?_; intro K' hK') | (refine Wk.xqNew ?_; intro K' hK') | (refine Wk.xqEnd ?_) | (refine Wk.rgDone ?_) | (refine Wk.rgTwo ?_ ?_ <;> intro K' hK') | (refine hK' _ _ ?_; clear hK' K') | (refine hK' _ ?_; clear hK' K') | (refine hKT _ ?_; clear hKT hKF KT KF) | (refine hKF _ ?_; clear hKT hKF KT KF) | (refine Wk.cond ?_; intro KT KF hKT hKF) | (refine Wk.ret ?_) | (refine Wk.draw ?_ ?_ ?_; rotate_left 2; (intro K' hK')) | (refine Wk.step rfl ?_) | (refine Wk.done ?_) | (refine Fin.plain trivial ?_) | ((with_reducible refine top_goal ?_); kernel_rfl) | ((with_reducible refine allB_goal ?_); kernel_rfl) | ((with_reducible refine mine_goal ?_); exact mine_of rfl) | ((with_reducible refine withV_goal ?_); refine withV_mk rfl ?_) | ((with_reducible refine hsel_goal ?_); (first | (exact hsel.nil) | (refine hsel.take (HB.like.refl _) (.inr fun _ h => h) ?_) | (refine hsel.take (like_cts ?_) (.inl rfl) ?_) | (refine hsel.skip (spare_own rfl rfl) ?_) | (refine hsel.skip spare_ro ?_))) | (refine And.intro ?_ ?_) | (intro hq; (try simp only [BF.H, Cel.eta, Rul.eta, Grd.eta, if_true, if_false] at hq); (try (exfalso; first | omega | (simp [BF.b] at hq; done)))))
      all_goals (try simp only [Cel.eta, Rul.eta, Grd.eta, if_true, if_false])
      all_goals (first | (with_reducible rfl) | (with_reducible exact trivial) | (with_reducible exact splitN_zero) | ((with_reducible refine fsub_goal ?_); exact trivial) | (with_reducible assumption) | ((with_reducible refine ble_goal ?_); rfl) | omega | skip)
      all_goals (first | (have h9 := Cel.facts (by assumption); (first | omega | (simp [Cel.eta, Rul.eta, Grd.eta, den, denL, den_ofConst, BF.b, bfOf, Cel.sv, Rul.sv, Cel.place, Cel.h, Cel.cls, *]; done) | (simp [Cel.eta, Rul.eta, Grd.eta, den, denL, den_ofConst, BF.b, bfOf, Cel.sv, Rul.sv, Cel.place, Cel.h, Cel.cls, *]; omega))) | (simp [Cel.eta, Rul.eta, Grd.eta, den, denL, den_ofConst, BF.b, bfOf, Cel.sv, Rul.sv, Cel.place, Cel.h, Cel.cls]; done) | (simp [Cel.eta, Rul.eta, Grd.eta, den, denL, den_ofConst, BF.b, bfOf, Cel.sv, Rul.sv, Cel.place, Cel.h, Cel.cls]; omega) | (simp [Cel.eta, Rul.eta, Grd.eta, den, denL, den_ofConst, BF.b, bfOf, Cel.sv, Rul.sv, Cel.place, Cel.h, Cel.cls]; (repeat' split) <;> omega) | (simp [Cel.eta, Rul.eta, Grd.eta, den, denL, den_ofConst, BF.b, bfOf, Cel.sv, Rul.sv, Cel.place, Cel.h, Cel.cls]; rw [Bool.eq_iff_iff]; (repeat' split) <;> simp <;> omega) | (simp [Cel.eta, Rul.eta, Grd.eta, den, denL, den_ofConst, BF.b, bfOf, Cel.sv, Rul.sv, Cel.place, Cel.h, Cel.cls, *]; done) | (simp [Cel.eta, Rul.eta, Grd.eta, den, denL, den_ofConst, BF.b, bfOf, Cel.sv, Rul.sv, Cel.place, Cel.h, Cel.cls, *]; omega))
    · exact hK.elim
def G25 : List (Nat × Ctr) := (51, c_refA_Place) :: G24
theorem okG25 : GsOk Try.prog G25 := GsOk.cons k_refA_Place okG24
def c_cell_Of : Ctr := fun args _ K => match args with
  | [x0, x1, x2, x3] => i1 x0 fun m => i1 x1 fun u => i1 x2 fun v => i1 x3 fun p => (I64 m ∧ I64 u ∧ I64 v ∧ I64 p) ∧ K (.tup [Cel.sv (ofC m u v p).1, .int .i64 (ofC m u v p).2])
  | _ => False
noncomputable def X_cell_Of : Env Try.prog := ⟨Try.f52.ntmps, TT, G25, E0, Try.f52.results.toList, [], TT_ok, okG25, okE0, mixed⟩
set_option maxHeartbeats 1000000 in
theorem k_cell_Of : COk Try.prog 52 c_cell_Of :=
  ctr_of_wk X_cell_Of Try.func52 rfl (by kernel_rfl) rfl rfl fun args hp K hK => by
    unfold c_cell_Of at hK
    split at hK
    · obtain ⟨m, hK1, e0⟩ := iff_i1 hK; clear hK; have hK := hK1; clear hK1
      obtain ⟨u, hK1, e1⟩ := iff_i1 hK; clear hK; have hK := hK1; clear hK1
      obtain ⟨v, hK1, e2⟩ := iff_i1 hK; clear hK; have hK := hK1; clear hK1
      obtain ⟨p, hK1, e3⟩ := iff_i1 hK; clear hK; have hK := hK1; clear hK1
      obtain ⟨hpre, hK⟩ := hK
      obtain ⟨⟨m1, m2⟩, ⟨u1, u2⟩, ⟨v1, v2⟩, p1, p2⟩ := hpre
      refine ⟨[.int .i64 m, .int .i64 u, .int .i64 v, .int .i64 p], [], _, denL_cons (e0.symm) (denL_cons (e1.symm) (denL_cons (e2.symm) (denL_cons (e3.symm) (rfl)))), trivial, fun _ _ b hb => (by cases hb), hK, Nat.le_of_ble_eq_true rfl, ?_⟩
      clear hK
      repeat' (first | (refine Wk.op ?_; intro K' hK') | (refine Wk.xqOp ?_; intro K' hK') | (refine Wk.rgOne ?_; intro K' hK') | (refine Wk.rgPure ?_; intro K' hK') | (refine Wk.rgX ?_; intro K' hK') | (refine Wk.xqNew ?_; intro K' hK') | (refine Wk.xqEnd ?_) | (refine Wk.rgDone ?_) | (refine Wk.rgTwo ?_ ?_ <;> intro K' hK') | (refine hK' _ _ ?_; clear hK' K') | (refine hK' _ ?_; clear hK' K') | (refine hKT _ ?_; clear hKT hKF KT KF) | (refine hKF _ ?_; clear hKT hKF KT KF) | (refine Wk.cond ?_; intro KT KF hKT hKF) | (refine Wk.ret ?_) | (refine Wk.draw ?_ ?_ ?_; rotate_left 2; (intro K' hK')) | (refine Wk.step rfl ?_) | (refine Wk.done ?_) | (refine Fin.plain trivial ?_) | ((with_reducible refine top_goal ?_); kernel_rfl) | ((with_reducible refine allB_goal ?_); kernel_rfl) | ((with_reducible refine mine_goal ?_); exact mine_of rfl) | ((with_reducible refine withV_goal ?_); refine withV_mk rfl ?_) | ((with_reducible refine hsel_goal ?_); (first | (exact hsel.nil) | (refine hsel.take (HB.like.refl _) (.inr fun _ h => h) ?_) | (refine hsel.take (like_cts ?_) (.inl rfl) ?_) | (refine hsel.skip (spare_own rfl rfl) ?_) | (refine hsel.skip spare_ro ?_))) | (refine And.intro ?_ ?_) | (intro hq; (try simp only [BF.H, Cel.eta, Rul.eta, Grd.eta, if_true, if_false] at hq); (try simp (disch := omega) only [Int.tdiv_eq_ediv_of_nonneg, Int.tmod_eq_emod_of_nonneg] at hq); (try (exfalso; first | omega | (simp [BF.b] at hq; done)))))
      all_goals (try simp only [Cel.eta, Rul.eta, Grd.eta, if_true, if_false])
      all_goals (first | (with_reducible rfl) | (with_reducible exact trivial) | (with_reducible exact splitN_zero) | ((with_reducible refine fsub_goal ?_); exact trivial) | (with_reducible assumption) | ((with_reducible refine ble_goal ?_); rfl) | omega | skip)
      all_goals (first | omega | (simp (disch := omega) only [Int.tdiv_eq_ediv_of_nonneg, Int.tmod_eq_emod_of_nonneg]; omega) | (unfold ofC; rw [if_neg (by omega)]; rfl) | (unfold ofC; rw [if_pos (by omega), if_neg (by omega)]; rfl) | (rw [Cel.ok_iff]; simp (disch := omega) only [Int.tdiv_eq_ediv_of_nonneg, Int.tmod_eq_emod_of_nonneg]; omega) | (simp (disch := omega) only [Int.tdiv_eq_ediv_of_nonneg, Int.tmod_eq_emod_of_nonneg, Cel.h, Cel.v]; omega) | (unfold ofC; rw [if_pos (by omega), if_pos (by omega)]; simp (disch := omega) only [Int.tdiv_eq_ediv_of_nonneg, Int.tmod_eq_emod_of_nonneg]; simp [den, denL, den_ofConst, Cel.sv, Cel.placed, Cel.clsAt, Cel.h, Cel.v] <;> omega))
    · exact hK.elim
def G26 : List (Nat × Ctr) := (52, c_cell_Of) :: G25
theorem okG26 : GsOk Try.prog G26 := GsOk.cons k_cell_Of okG25
def c_refA_Of : Ctr := fun args _ K => match args with
  | [x0, x1, x2, x3] => i1 x0 fun m => i1 x1 fun u => i1 x2 fun v => i1 x3 fun p => (I64 m ∧ I64 u ∧ I64 v ∧ I64 p) ∧ K (.tup [Cel.sv (ofC m u v p).1, .int .i64 (ofC m u v p).2])
  | _ => False
noncomputable def X_refA_Of : Env Try.prog := ⟨Try.f53.ntmps, TT, G26, E0, Try.f53.results.toList, [], TT_ok, okG26, okE0, mixed⟩
set_option maxHeartbeats 1000000 in
theorem k_refA_Of : COk Try.prog 53 c_refA_Of :=
  ctr_of_wk X_refA_Of Try.func53 rfl (by kernel_rfl) rfl rfl fun args hp K hK => by
    unfold c_refA_Of at hK
    split at hK
    · obtain ⟨m, hK1, e0⟩ := iff_i1 hK; clear hK; have hK := hK1; clear hK1
      obtain ⟨u, hK1, e1⟩ := iff_i1 hK; clear hK; have hK := hK1; clear hK1
      obtain ⟨v, hK1, e2⟩ := iff_i1 hK; clear hK; have hK := hK1; clear hK1
      obtain ⟨p, hK1, e3⟩ := iff_i1 hK; clear hK; have hK := hK1; clear hK1
      obtain ⟨hpre, hK⟩ := hK
      obtain ⟨⟨m1, m2⟩, ⟨u1, u2⟩, ⟨v1, v2⟩, p1, p2⟩ := hpre
      refine ⟨[.int .i64 m, .int .i64 u, .int .i64 v, .int .i64 p], [], _, denL_cons (e0.symm) (denL_cons (e1.symm) (denL_cons (e2.symm) (denL_cons (e3.symm) (rfl)))), trivial, fun _ _ b hb => (by cases hb), hK, Nat.le_of_ble_eq_true rfl, ?_⟩
      clear hK
      repeat' (first | (refine Wk.op ?_; intro K' hK') | (refine Wk.xqOp ?_; intro K' hK') | (refine Wk.rgOne ?_; intro K' hK') | (refine Wk.rgPure ?_; intro K' hK') | (refine Wk.rgX ?_; intro K' hK') | (refine Wk.xqNew ?_; intro K' hK') | (refine Wk.xqEnd ?_) | (refine Wk.rgDone ?_) | (refine Wk.rgTwo ?_ ?_ <;> intro K' hK') | (refine hK' _ _ ?_; clear hK' K') | (refine hK' _ ?_; clear hK' K') | (refine hKT _ ?_; clear hKT hKF KT KF) | (refine hKF _ ?_; clear hKT hKF KT KF) | (refine Wk.cond ?_; intro KT KF hKT hKF) | (refine Wk.ret ?_) | (refine Wk.draw ?_ ?_ ?_; rotate_left 2; (intro K' hK')) | (refine Wk.step rfl ?_) | (refine Wk.done ?_) | (refine Fin.plain trivial ?_) | ((with_reducible refine top_goal ?_); kernel_rfl) | ((with_reducible refine allB_goal ?_); kernel_rfl) | ((with_reducible refine mine_goal ?_); exact mine_of rfl) | ((with_reducible refine withV_goal ?_); refine withV_mk rfl ?_) | ((with_reducible refine hsel_goal ?_); (first | (exact hsel.nil) | (refine hsel.take (HB.like.refl _) (.inr fun _ h => h) ?_) | (refine hsel.take (like_cts ?_) (.inl rfl) ?_) | (refine hsel.skip (spare_own rfl rfl) ?_) | (refine hsel.skip spare_ro ?_))) | (refine And.intro ?_ ?_) | (intro hq; (try simp only [BF.H, Cel.eta, Rul.eta, Grd.eta, if_true, if_false] at hq); (try simp (disch := omega) only [Int.tdiv_eq_ediv_of_nonneg, Int.tmod_eq_emod_of_nonneg] at hq); (try (exfalso; first | omega | (simp [BF.b] at hq; done)))))
      all_goals (try simp only [Cel.eta, Rul.eta, Grd.eta, if_true, if_false])
      all_goals (first | (with_reducible rfl) | (with_reducible exact trivial) | (with_reducible exact splitN_zero) | ((with_reducible refine fsub_goal ?_); exact trivial) | (with_reducible assumption) | ((with_reducible refine ble_goal ?_); rfl) | omega | skip)
      all_goals (first | omega | (simp (disch := omega) only [Int.tdiv_eq_ediv_of_nonneg, Int.tmod_eq_emod_of_nonneg]; omega) | (unfold ofC; rw [if_neg (by omega)]; rfl) | (unfold ofC; rw [if_pos (by omega), if_neg (by omega)]; rfl) | (rw [Cel.ok_iff]; simp (disch := omega) only [Int.tdiv_eq_ediv_of_nonneg, Int.tmod_eq_emod_of_nonneg]; omega) | (simp (disch := omega) only [Int.tdiv_eq_ediv_of_nonneg, Int.tmod_eq_emod_of_nonneg, Cel.h, Cel.v]; omega) | (unfold ofC; rw [if_pos (by omega), if_pos (by omega)]; simp (disch := omega) only [Int.tdiv_eq_ediv_of_nonneg, Int.tmod_eq_emod_of_nonneg]; simp [den, denL, den_ofConst, Cel.sv, Cel.placed, Cel.clsAt, Cel.h, Cel.v] <;> omega))
    · exact hK.elim
def G27 : List (Nat × Ctr) := (53, c_refA_Of) :: G26
theorem okG27 : GsOk Try.prog G27 := GsOk.cons k_refA_Of okG26
def c_lawA_CellClasses : Ctr := fun args _ K => match args with
  | [x0, x1] => c1 x0 fun c => c1 x1 fun n => (I64 n.e ∧ I64 n.n ∧ I64 n.w ∧ I64 n.s) ∧ K (.bool .tt)
  | _ => False
noncomputable def X_lawA_CellClasses : Env Try.prog := ⟨Try.f11.ntmps, TT, G27, E0, Try.f11.results.toList, [], TT_ok, okG27, okE0, mixed⟩
theorem k_lawA_CellClasses : COk Try.prog 11 c_lawA_CellClasses :=
  ctr_of_wk X_lawA_CellClasses Try.func11 rfl (by kernel_rfl) rfl rfl fun args hp K hK => by
    unfold c_lawA_CellClasses at hK
    split at hK
    · obtain ⟨c, hK1, e0⟩ := iff_c1 hK; clear hK; have hK := hK1; clear hK1
      obtain ⟨n, hK1, e1⟩ := iff_c1 hK; clear hK; have hK := hK1; clear hK1
      obtain ⟨hpre, hK⟩ := hK
      obtain ⟨⟨n1, n2⟩, ⟨n3, n4⟩, ⟨n5, n6⟩, n7, n8⟩ := hpre
      refine ⟨[Cel.sv c, Cel.sv n], [], _, denL_cons (e0.symm) (denL_cons (e1.symm) (rfl)), trivial, fun _ _ b hb => (by cases hb), hK, Nat.le_of_ble_eq_true rfl, ?_⟩
      clear hK
      repeat' (first | (refine Wk.op ?_; intro K' hK') | (refine Wk.xqOp ?_; intro K' hK') | (refine Wk.rgOne ?_; intro K' hK') | (refine Wk.rgPure ?_; intro K' hK') | (refine Wk.rgX ?_; intro K' hK') | (refine Wk.xqNew ?_; intro K' hK') | (refine Wk.xqEnd ?_) | (refine Wk.rgDone ?_) | (refine Wk.rgTwo ?_ ?_ <;> intro K' hK') | (refine hK' _ _ ?_; clear hK' K') | (refine hK' _ ?_; clear hK' K') | (refine hKT _ ?_; clear hKT hKF KT KF) | (refine hKF _ ?_; clear hKT hKF KT KF) | (refine Wk.cond ?_; intro KT KF hKT hKF) | (refine Wk.ret ?_) | (refine Wk.draw ?_ ?_ ?_; rotate_left 2; (intro K' hK')) | (refine Wk.step rfl ?_) | (refine Wk.done ?_) | (refine Fin.plain trivial ?_) | ((with_reducible refine top_goal ?_); kernel_rfl) | ((with_reducible refine allB_goal ?_); kernel_rfl) | ((with_reducible refine mine_goal ?_); exact mine_of rfl) | ((with_reducible refine withV_goal ?_); refine withV_mk rfl ?_) | ((with_reducible refine hsel_goal ?_); (first | (exact hsel.nil) | (refine hsel.take (HB.like.refl _) (.inr fun _ h => h) ?_) | (refine hsel.take (like_cts ?_) (.inl rfl) ?_) | (refine hsel.skip (spare_own rfl rfl) ?_) | (refine hsel.skip spare_ro ?_))) | (refine And.intro ?_ ?_) | (intro hq; (try simp only [BF.H, Cel.eta, Rul.eta, Grd.eta, if_true, if_false] at hq); (try (exfalso; first | omega | (simp [BF.b] at hq; done)))))
      all_goals (try simp only [Cel.eta, Rul.eta, Grd.eta, if_true, if_false])
      all_goals (first | (with_reducible rfl) | (with_reducible exact trivial) | (with_reducible exact splitN_zero) | ((with_reducible refine fsub_goal ?_); exact trivial) | (with_reducible assumption) | ((with_reducible refine ble_goal ?_); rfl) | omega | skip)
      all_goals (first | rfl | exact Nat.le_of_ble_eq_true rfl | assumption | (cases hc : c.ok <;> (first | (simp [BF.b, Cel.place, hc] at *; done) | (obtain ⟨h1, h2, h3⟩ := Cel.back hc; simp [BF.b, h1, h2, h3, Cel.place, Cel.mass, Cel.mom, hc] at *; done) | (have hf := Cel.facts hc; simp [Cel.place, Cel.mass, Cel.mom, hc, I64] <;> omega))))
    · exact hK.elim
def G28 : List (Nat × Ctr) := (11, c_lawA_CellClasses) :: G27
theorem okG28 : GsOk Try.prog G28 := GsOk.cons k_lawA_CellClasses okG27
end Go.Proofs.Ytcagdjbinkadpaa

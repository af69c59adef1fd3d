/- Contracts: what the functions hand back. -/
import Derived.Test.YtcagdjbinkadpaaT
import Derived.Test.YtcagdjbinkadpaaSyJ
import Derived.Test.YtcagdjbinkadpaaSpAdd
import Derived.Test.YtcagdjbinkadpaaSpOrder
set_option linter.unusedSimpArgs false
set_option linter.unusedVariables false
set_option maxRecDepth 100000
namespace Go.Proofs.Ytcagdjbinkadpaa
open Go.Sy Go.RowKit

def G0 : List (Nat × Ctr) := []
theorem okG0 : GsOk Try.prog G0 := GsOk.nil _
def E0 : List (Nat × ECtr) := []
theorem okE0 : EsOk Try.prog E0 := EsOk.nil _
def c_cell_within : Ctr := fun args _ K => match args with
  | [x0, x1, x2] => i1 x0 fun n => i1 x1 fun lo => i1 x2 fun hi => K (.bool (.and (.le lo n) (.le n hi)))
  | _ => False
noncomputable def X_cell_within : Env Try.prog := ⟨Try.f89.ntmps, TT, G0, E0, Try.f89.results.toList, [], TT_ok, okG0, okE0, mixed⟩
theorem k_cell_within : COk Try.prog 89 c_cell_within :=
  ctr_of_wk X_cell_within Try.func89 rfl (by kernel_rfl) rfl rfl fun args hp K hK => by
    unfold c_cell_within at hK
    split at hK
    · obtain ⟨n, hK1, e0⟩ := iff_i1 hK; clear hK; have hK := hK1; clear hK1
      obtain ⟨lo, hK1, e1⟩ := iff_i1 hK; clear hK; have hK := hK1; clear hK1
      obtain ⟨hi, hK1, e2⟩ := iff_i1 hK; clear hK; have hK := hK1; clear hK1
      refine ⟨[.int .i64 n, .int .i64 lo, .int .i64 hi], [], _, denL_cons (e0.symm) (denL_cons (e1.symm) (denL_cons (e2.symm) (rfl))), trivial, fun _ _ b hb => (by cases hb), hK, Nat.le_of_ble_eq_true rfl, ?_⟩
      clear hK
      repeat' (first | (refine Wk.op ?_; intro K' hK') | (refine Wk.xqOp ?_; intro K' hK') | (refine Wk.rgOne ?_; intro K' hK') | (refine Wk.rgPure ?_; intro K' hK') | (refine Wk.rgX ?_; intro K' hK') | (refine Wk.xqNew ?_; intro K' hK') | (refine Wk.xqEnd ?_) | (refine Wk.rgDone ?_) | (refine Wk.rgTwo ?_ ?_ <;> intro K' hK') | (refine hK' _ _ ?_; clear hK' K') | (refine hK' _ ?_; clear hK' K') | (refine hKT _ ?_; clear hKT hKF KT KF) | (refine hKF _ ?_; clear hKT hKF KT KF) | (refine Wk.cond ?_; intro KT KF hKT hKF) | (refine Wk.ret ?_) | (refine Wk.draw ?_ ?_ ?_; rotate_left 2; (intro K' hK')) | (refine Wk.step rfl ?_) | (refine Wk.done ?_) | (refine Fin.plain trivial ?_) | ((with_reducible refine top_goal ?_); kernel_rfl) | ((with_reducible refine allB_goal ?_); kernel_rfl) | ((with_reducible refine mine_goal ?_); exact mine_of rfl) | ((with_reducible refine withV_goal ?_); refine withV_mk rfl ?_) | ((with_reducible refine hsel_goal ?_); (first | (exact hsel.nil) | (refine hsel.take (HB.like.refl _) (.inr fun _ h => h) ?_) | (refine hsel.take (like_cts ?_) (.inl rfl) ?_) | (refine hsel.skip (spare_own rfl rfl) ?_) | (refine hsel.skip spare_ro ?_))) | (refine And.intro ?_ ?_) | (intro hq; (try simp only [BF.H, Cel.eta, Rul.eta, Grd.eta, if_true, if_false] at hq); (try (exfalso; first | omega | (simp [BF.b] at hq; done)))))
      all_goals (try simp only [Cel.eta, Rul.eta, Grd.eta, if_true, if_false])
      all_goals (first | (with_reducible rfl) | (with_reducible exact trivial) | (with_reducible exact splitN_zero) | ((with_reducible refine fsub_goal ?_); exact trivial) | (with_reducible assumption) | ((with_reducible refine ble_goal ?_); rfl) | omega | skip)
      all_goals (first | (simp [Cel.eta, Rul.eta, Grd.eta, den, denL, den_ofConst, BF.b, bfOf, Cel.sv, Rul.sv]; done) | (simp [Cel.eta, Rul.eta, Grd.eta, den, denL, den_ofConst, BF.b, bfOf, Cel.sv, Rul.sv]; omega) | (simp [Cel.eta, Rul.eta, Grd.eta, den, denL, den_ofConst, BF.b, bfOf, Cel.sv, Rul.sv]; (repeat' split) <;> omega) | (simp [Cel.eta, Rul.eta, Grd.eta, den, denL, den_ofConst, BF.b, bfOf, Cel.sv, Rul.sv]; rw [Bool.eq_iff_iff]; (repeat' split) <;> simp <;> omega) | (simp [Cel.eta, Rul.eta, Grd.eta, den, denL, den_ofConst, BF.b, bfOf, Cel.sv, Rul.sv, *]; done) | (simp [Cel.eta, Rul.eta, Grd.eta, den, denL, den_ofConst, BF.b, bfOf, Cel.sv, Rul.sv, *]; omega))
    · exact hK.elim
def G1 : List (Nat × Ctr) := (89, c_cell_within) :: G0
theorem okG1 : GsOk Try.prog G1 := GsOk.cons k_cell_within okG0
def c_refA_within : Ctr := fun args _ K => match args with
  | [x0, x1, x2] => i1 x0 fun n => i1 x1 fun lo => i1 x2 fun hi => K (.bool (.and (.le lo n) (.le n hi)))
  | _ => False
noncomputable def X_refA_within : Env Try.prog := ⟨Try.f88.ntmps, TT, G1, E0, Try.f88.results.toList, [], TT_ok, okG1, okE0, mixed⟩
theorem k_refA_within : COk Try.prog 88 c_refA_within :=
  ctr_of_wk X_refA_within Try.func88 rfl (by kernel_rfl) rfl rfl fun args hp K hK => by
    unfold c_refA_within at hK
    split at hK
    · obtain ⟨n, hK1, e0⟩ := iff_i1 hK; clear hK; have hK := hK1; clear hK1
      obtain ⟨lo, hK1, e1⟩ := iff_i1 hK; clear hK; have hK := hK1; clear hK1
      obtain ⟨hi, hK1, e2⟩ := iff_i1 hK; clear hK; have hK := hK1; clear hK1
      refine ⟨[.int .i64 n, .int .i64 lo, .int .i64 hi], [], _, denL_cons (e0.symm) (denL_cons (e1.symm) (denL_cons (e2.symm) (rfl))), trivial, fun _ _ b hb => (by cases hb), hK, Nat.le_of_ble_eq_true rfl, ?_⟩
      clear hK
      repeat' (first | (refine Wk.op ?_; intro K' hK') | (refine Wk.xqOp ?_; intro K' hK') | (refine Wk.rgOne ?_; intro K' hK') | (refine Wk.rgPure ?_; intro K' hK') | (refine Wk.rgX ?_; intro K' hK') | (refine Wk.xqNew ?_; intro K' hK') | (refine Wk.xqEnd ?_) | (refine Wk.rgDone ?_) | (refine Wk.rgTwo ?_ ?_ <;> intro K' hK') | (refine hK' _ _ ?_; clear hK' K') | (refine hK' _ ?_; clear hK' K') | (refine hKT _ ?_; clear hKT hKF KT KF) | (refine hKF _ ?_; clear hKT hKF KT KF) | (refine Wk.cond ?_; intro KT KF hKT hKF) | (refine Wk.ret ?_) | (refine Wk.draw ?_ ?_ ?_; rotate_left 2; (intro K' hK')) | (refine Wk.step rfl ?_) | (refine Wk.done ?_) | (refine Fin.plain trivial ?_) | ((with_reducible refine top_goal ?_); kernel_rfl) | ((with_reducible refine allB_goal ?_); kernel_rfl) | ((with_reducible refine mine_goal ?_); exact mine_of rfl) | ((with_reducible refine withV_goal ?_); refine withV_mk rfl ?_) | ((with_reducible refine hsel_goal ?_); (first | (exact hsel.nil) | (refine hsel.take (HB.like.refl _) (.inr fun _ h => h) ?_) | (refine hsel.take (like_cts ?_) (.inl rfl) ?_) | (refine hsel.skip (spare_own rfl rfl) ?_) | (refine hsel.skip spare_ro ?_))) | (refine And.intro ?_ ?_) | (intro hq; (try simp only [BF.H, Cel.eta, Rul.eta, Grd.eta, if_true, if_false] at hq); (try (exfalso; first | omega | (simp [BF.b] at hq; done)))))
      all_goals (try simp only [Cel.eta, Rul.eta, Grd.eta, if_true, if_false])
      all_goals (first | (with_reducible rfl) | (with_reducible exact trivial) | (with_reducible exact splitN_zero) | ((with_reducible refine fsub_goal ?_); exact trivial) | (with_reducible assumption) | ((with_reducible refine ble_goal ?_); rfl) | omega | skip)
      all_goals (first | (simp [Cel.eta, Rul.eta, Grd.eta, den, denL, den_ofConst, BF.b, bfOf, Cel.sv, Rul.sv]; done) | (simp [Cel.eta, Rul.eta, Grd.eta, den, denL, den_ofConst, BF.b, bfOf, Cel.sv, Rul.sv]; omega) | (simp [Cel.eta, Rul.eta, Grd.eta, den, denL, den_ofConst, BF.b, bfOf, Cel.sv, Rul.sv]; (repeat' split) <;> omega) | (simp [Cel.eta, Rul.eta, Grd.eta, den, denL, den_ofConst, BF.b, bfOf, Cel.sv, Rul.sv]; rw [Bool.eq_iff_iff]; (repeat' split) <;> simp <;> omega) | (simp [Cel.eta, Rul.eta, Grd.eta, den, denL, den_ofConst, BF.b, bfOf, Cel.sv, Rul.sv, *]; done) | (simp [Cel.eta, Rul.eta, Grd.eta, den, denL, den_ofConst, BF.b, bfOf, Cel.sv, Rul.sv, *]; omega))
    · exact hK.elim
def G2 : List (Nat × Ctr) := (88, c_refA_within) :: G1
theorem okG2 : GsOk Try.prog G2 := GsOk.cons k_refA_within okG1
def c_cell_sum : Ctr := fun args hp K => match args with
  | [x0] => s4 x0 hp fun c => K (.int .i64 (Cel.sum c))
  | _ => False
noncomputable def X_cell_sum : Env Try.prog := ⟨Try.f87.ntmps, TT, G2, E0, Try.f87.results.toList, [], TT_ok, okG2, okE0, mixed⟩
theorem k_cell_sum : COk Try.prog 87 c_cell_sum :=
  ctr_of_wk X_cell_sum Try.func87 rfl (by kernel_rfl) rfl rfl fun args hp K hK => by
    unfold c_cell_sum at hK
    split at hK
    · obtain ⟨c, nmc, capc, hK1, e0, vwc⟩ := iff_s4 hK; clear hK; have hK := hK1; clear hK1
      refine ⟨[.sub 0 nmc 0 0 0 4 capc], [⟨some nmc, false, .ro, .l [.int .i64 c.e, .int .i64 c.n, .int .i64 c.w, .int .i64 c.s]⟩], _, denL_cons (e0) (rfl), ⟨trivial, trivial⟩, fun w hw b hb => (by rw [List.mem_singleton] at hb; subst hb; exact vwc w hw), hK, Nat.le_of_ble_eq_true rfl, ?_⟩
      clear hK
      repeat' (first | (refine Wk.op ?_; intro K' hK') | (refine Wk.xqOp ?_; intro K' hK') | (refine Wk.rgOne ?_; intro K' hK') | (refine Wk.rgPure ?_; intro K' hK') | (refine Wk.rgX ?_; intro K' hK') | (refine Wk.xqNew ?_; intro K' hK') | (refine Wk.xqEnd ?_) | (refine Wk.rgDone ?_) | (refine Wk.rgTwo ?_ ?_ <;> intro K' hK') | (refine hK' _ _ ?_; clear hK' K') | (refine hK' _ ?_; clear hK' K') | (refine hKT _ ?_; clear hKT hKF KT KF) | (refine hKF _ ?_; clear hKT hKF KT KF) | (refine Wk.cond ?_; intro KT KF hKT hKF) | (refine Wk.ret ?_) | (refine Wk.draw ?_ ?_ ?_; rotate_left 2; (intro K' hK')) | (refine Wk.step rfl ?_) | (refine Wk.rounds (X := X_cell_sum) (t := .b 0 :: _) 5 ?_) | (refine Wk.done ?_) | (refine Fin.plain trivial ?_) | ((with_reducible refine top_goal ?_); kernel_rfl) | ((with_reducible refine allB_goal ?_); kernel_rfl) | ((with_reducible refine mine_goal ?_); exact mine_of rfl) | ((with_reducible refine withV_goal ?_); refine withV_mk rfl ?_) | ((with_reducible refine hsel_goal ?_); (first | (exact hsel.nil) | (refine hsel.take (HB.like.refl _) (.inr fun _ h => h) ?_) | (refine hsel.take (like_cts ?_) (.inl rfl) ?_) | (refine hsel.skip (spare_own rfl rfl) ?_) | (refine hsel.skip spare_ro ?_))) | (refine And.intro ?_ ?_) | (intro hq; (try simp only [BF.H, Cel.eta, Rul.eta, Grd.eta, if_true, if_false] at hq); (try (exfalso; first | omega | (simp [BF.b] at hq; done)))))
      all_goals (try simp only [Cel.eta, Rul.eta, Grd.eta, if_true, if_false])
      all_goals (first | (with_reducible rfl) | (with_reducible exact trivial) | (with_reducible exact splitN_zero) | ((with_reducible refine fsub_goal ?_); exact trivial) | (with_reducible assumption) | ((with_reducible refine ble_goal ?_); rfl) | omega | skip)
      all_goals (first | (simp [Cel.eta, Rul.eta, Grd.eta, den, denL, den_ofConst, BF.b, bfOf, Cel.sv, Rul.sv, Cel.sum, Cel.ok]; done) | (simp [Cel.eta, Rul.eta, Grd.eta, den, denL, den_ofConst, BF.b, bfOf, Cel.sv, Rul.sv, Cel.sum, Cel.ok]; omega) | (simp [Cel.eta, Rul.eta, Grd.eta, den, denL, den_ofConst, BF.b, bfOf, Cel.sv, Rul.sv, Cel.sum, Cel.ok]; (repeat' split) <;> omega) | (simp [Cel.eta, Rul.eta, Grd.eta, den, denL, den_ofConst, BF.b, bfOf, Cel.sv, Rul.sv, Cel.sum, Cel.ok]; rw [Bool.eq_iff_iff]; (repeat' split) <;> simp <;> omega) | (simp [Cel.eta, Rul.eta, Grd.eta, den, denL, den_ofConst, BF.b, bfOf, Cel.sv, Rul.sv, Cel.sum, Cel.ok, *]; done) | (simp [Cel.eta, Rul.eta, Grd.eta, den, denL, den_ofConst, BF.b, bfOf, Cel.sv, Rul.sv, Cel.sum, Cel.ok, *]; omega))
    · exact hK.elim
def G3 : List (Nat × Ctr) := (87, c_cell_sum) :: G2
theorem okG3 : GsOk Try.prog G3 := GsOk.cons k_cell_sum okG2
def c_cell_Valid : Ctr := fun args _ K => match args with
  | [x0] => c1 x0 fun c => K (.bool (.atom (Cel.ok c)))
  | _ => False
noncomputable def X_cell_Valid : Env Try.prog := ⟨Try.f32.ntmps, TT, G3, E0, Try.f32.results.toList, [], TT_ok, okG3, okE0, mixed⟩
theorem k_cell_Valid : COk Try.prog 32 c_cell_Valid :=
  ctr_of_wk X_cell_Valid Try.func32 rfl (by kernel_rfl) rfl rfl fun args hp K hK => by
    unfold c_cell_Valid at hK
    split at hK
    · obtain ⟨c, hK1, e0⟩ := iff_c1 hK; clear hK; have hK := hK1; clear hK1
      refine ⟨[Cel.sv c], [], _, denL_cons (e0.symm) (rfl), trivial, fun _ _ b hb => (by cases hb), hK, Nat.le_of_ble_eq_true rfl, ?_⟩
      clear hK
      repeat' (first | (refine Wk.op ?_; intro K' hK') | (refine Wk.xqOp ?_; intro K' hK') | (refine Wk.rgOne ?_; intro K' hK') | (refine Wk.rgPure ?_; intro K' hK') | (refine Wk.rgX ?_; intro K' hK') | (refine Wk.xqNew ?_; intro K' hK') | (refine Wk.xqEnd ?_) | (refine Wk.rgDone ?_) | (refine Wk.rgTwo ?_ ?_ <;> intro K' hK') | (refine hK' _ _ ?_; clear hK' K') | (refine hK' _ ?_; clear hK' K') | (refine hKT _ ?_; clear hKT hKF KT KF) | (refine hKF _ ?_; clear hKT hKF KT KF) | (refine Wk.cond ?_; intro KT KF hKT hKF) | (refine Wk.ret ?_) | (refine Wk.draw ?_ ?_ ?_; rotate_left 2; (intro K' hK')) | (refine Wk.step rfl ?_) | (refine Wk.done ?_) | (refine Fin.plain trivial ?_) | ((with_reducible refine top_goal ?_); kernel_rfl) | ((with_reducible refine allB_goal ?_); kernel_rfl) | ((with_reducible refine mine_goal ?_); exact mine_of rfl) | ((with_reducible refine withV_goal ?_); refine withV_mk rfl ?_) | ((with_reducible refine hsel_goal ?_); (first | (exact hsel.nil) | (refine hsel.take (HB.like.refl _) (.inr fun _ h => h) ?_) | (refine hsel.take (like_cts ?_) (.inl rfl) ?_) | (refine hsel.skip (spare_own rfl rfl) ?_) | (refine hsel.skip spare_ro ?_))) | (refine And.intro ?_ ?_) | (intro hq; (try simp only [BF.H, Cel.eta, Rul.eta, Grd.eta, if_true, if_false] at hq); (try (exfalso; first | omega | (simp [BF.b] at hq; done)))))
      all_goals (try simp only [Cel.eta, Rul.eta, Grd.eta, if_true, if_false])
      all_goals (first | (with_reducible rfl) | (with_reducible exact trivial) | (with_reducible exact splitN_zero) | ((with_reducible refine fsub_goal ?_); exact trivial) | (with_reducible assumption) | ((with_reducible refine ble_goal ?_); rfl) | omega | skip)
      all_goals (first | (simp [Cel.eta, Rul.eta, Grd.eta, den, denL, den_ofConst, BF.b, bfOf, Cel.sv, Rul.sv, Cel.sum, Cel.ok]; done) | (simp [Cel.eta, Rul.eta, Grd.eta, den, denL, den_ofConst, BF.b, bfOf, Cel.sv, Rul.sv, Cel.sum, Cel.ok]; omega) | (simp [Cel.eta, Rul.eta, Grd.eta, den, denL, den_ofConst, BF.b, bfOf, Cel.sv, Rul.sv, Cel.sum, Cel.ok]; (repeat' split) <;> omega) | (simp [Cel.eta, Rul.eta, Grd.eta, den, denL, den_ofConst, BF.b, bfOf, Cel.sv, Rul.sv, Cel.sum, Cel.ok]; rw [Bool.eq_iff_iff]; (repeat' split) <;> simp <;> omega) | (simp [Cel.eta, Rul.eta, Grd.eta, den, denL, den_ofConst, BF.b, bfOf, Cel.sv, Rul.sv, Cel.sum, Cel.ok, *]; done) | (simp [Cel.eta, Rul.eta, Grd.eta, den, denL, den_ofConst, BF.b, bfOf, Cel.sv, Rul.sv, Cel.sum, Cel.ok, *]; omega))
    · exact hK.elim
def G4 : List (Nat × Ctr) := (32, c_cell_Valid) :: G3
theorem okG4 : GsOk Try.prog G4 := GsOk.cons k_cell_Valid okG3
def c_refA_Valid : Ctr := fun args _ K => match args with
  | [x0] => c1 x0 fun c => K (.bool (.atom (Cel.ok c)))
  | _ => False
noncomputable def X_refA_Valid : Env Try.prog := ⟨Try.f33.ntmps, TT, G4, E0, Try.f33.results.toList, [], TT_ok, okG4, okE0, mixed⟩
theorem k_refA_Valid : COk Try.prog 33 c_refA_Valid :=
  ctr_of_wk X_refA_Valid Try.func33 rfl (by kernel_rfl) rfl rfl fun args hp K hK => by
    unfold c_refA_Valid at hK
    split at hK
    · obtain ⟨c, hK1, e0⟩ := iff_c1 hK; clear hK; have hK := hK1; clear hK1
      refine ⟨[Cel.sv c], [], _, denL_cons (e0.symm) (rfl), trivial, fun _ _ b hb => (by cases hb), hK, Nat.le_of_ble_eq_true rfl, ?_⟩
      clear hK
      repeat' (first | (refine Wk.op ?_; intro K' hK') | (refine Wk.xqOp ?_; intro K' hK') | (refine Wk.rgOne ?_; intro K' hK') | (refine Wk.rgPure ?_; intro K' hK') | (refine Wk.rgX ?_; intro K' hK') | (refine Wk.xqNew ?_; intro K' hK') | (refine Wk.xqEnd ?_) | (refine Wk.rgDone ?_) | (refine Wk.rgTwo ?_ ?_ <;> intro K' hK') | (refine hK' _ _ ?_; clear hK' K') | (refine hK' _ ?_; clear hK' K') | (refine hKT _ ?_; clear hKT hKF KT KF) | (refine hKF _ ?_; clear hKT hKF KT KF) | (refine Wk.cond ?_; intro KT KF hKT hKF) | (refine Wk.ret ?_) | (refine Wk.draw ?_ ?_ ?_; rotate_left 2; (intro K' hK')) | (refine Wk.step rfl ?_) | (refine Wk.rounds (X := X_refA_Valid) (t := .b 0 :: _) 5 ?_) | (refine Wk.done ?_) | (refine Fin.plain trivial ?_) | ((with_reducible refine top_goal ?_); kernel_rfl) | ((with_reducible refine allB_goal ?_); kernel_rfl) | ((with_reducible refine mine_goal ?_); exact mine_of rfl) | ((with_reducible refine withV_goal ?_); refine withV_mk rfl ?_) | ((with_reducible refine hsel_goal ?_); (first | (exact hsel.nil) | (refine hsel.take (HB.like.refl _) (.inr fun _ h => h) ?_) | (refine hsel.take (like_cts ?_) (.inl rfl) ?_) | (refine hsel.skip (spare_own rfl rfl) ?_) | (refine hsel.skip spare_ro ?_))) | (refine And.intro ?_ ?_) | (intro hq; (try simp only [BF.H, Cel.eta, Rul.eta, Grd.eta, if_true, if_false] at hq); (try (exfalso; first | omega | (simp [BF.b] at hq; done)))))
      all_goals (try simp only [Cel.eta, Rul.eta, Grd.eta, if_true, if_false])
      all_goals (first | (with_reducible rfl) | (with_reducible exact trivial) | (with_reducible exact splitN_zero) | ((with_reducible refine fsub_goal ?_); exact trivial) | (with_reducible assumption) | ((with_reducible refine ble_goal ?_); rfl) | omega | skip)
      all_goals (first | (simp [Cel.eta, Rul.eta, Grd.eta, den, denL, den_ofConst, BF.b, bfOf, Cel.sv, Rul.sv, Cel.ok]; done) | (simp [Cel.eta, Rul.eta, Grd.eta, den, denL, den_ofConst, BF.b, bfOf, Cel.sv, Rul.sv, Cel.ok]; omega) | (simp [Cel.eta, Rul.eta, Grd.eta, den, denL, den_ofConst, BF.b, bfOf, Cel.sv, Rul.sv, Cel.ok]; (repeat' split) <;> omega) | (simp [Cel.eta, Rul.eta, Grd.eta, den, denL, den_ofConst, BF.b, bfOf, Cel.sv, Rul.sv, Cel.ok]; rw [Bool.eq_iff_iff]; (repeat' split) <;> simp <;> omega) | (simp [Cel.eta, Rul.eta, Grd.eta, den, denL, den_ofConst, BF.b, bfOf, Cel.sv, Rul.sv, Cel.ok, *]; done) | (simp [Cel.eta, Rul.eta, Grd.eta, den, denL, den_ofConst, BF.b, bfOf, Cel.sv, Rul.sv, Cel.ok, *]; omega))
    · exact hK.elim
def G5 : List (Nat × Ctr) := (33, c_refA_Valid) :: G4
theorem okG5 : GsOk Try.prog G5 := GsOk.cons k_refA_Valid okG4
def c_cell_ValidRule : Ctr := fun args _ K => match args with
  | [x0] => r1 x0 fun r => K (.bool (.atom (Rul.ok r)))
  | _ => False
noncomputable def X_cell_ValidRule : Env Try.prog := ⟨Try.f34.ntmps, TT, G5, E0, Try.f34.results.toList, [], TT_ok, okG5, okE0, mixed⟩
theorem k_cell_ValidRule : COk Try.prog 34 c_cell_ValidRule :=
  ctr_of_wk X_cell_ValidRule Try.func34 rfl (by kernel_rfl) rfl rfl fun args hp K hK => by
    unfold c_cell_ValidRule at hK
    split at hK
    · obtain ⟨r, hK1, e0⟩ := iff_r1 hK; clear hK; have hK := hK1; clear hK1
      refine ⟨[Rul.sv r], [], _, denL_cons (e0.symm) (rfl), trivial, fun _ _ b hb => (by cases hb), hK, Nat.le_of_ble_eq_true rfl, ?_⟩
      clear hK
      repeat' (first | (refine Wk.op ?_; intro K' hK') | (refine Wk.xqOp ?_; intro K' hK') | (refine Wk.rgOne ?_; intro K' hK') | (refine Wk.rgPure ?_; intro K' hK') | (refine Wk.rgX ?_; intro K' hK') | (refine Wk.xqNew ?_; intro K' hK') | (refine Wk.xqEnd ?_) | (refine Wk.rgDone ?_) | (refine Wk.rgTwo ?_ ?_ <;> intro K' hK') | (refine hK' _ _ ?_; clear hK' K') | (refine hK' _ ?_; clear hK' K') | (refine hKT _ ?_; clear hKT hKF KT KF) | (refine hKF _ ?_; clear hKT hKF KT KF) | (refine Wk.cond ?_; intro KT KF hKT hKF) | (refine Wk.ret ?_) | (refine Wk.draw ?_ ?_ ?_; rotate_left 2; (intro K' hK')) | (refine Wk.step rfl ?_) | (refine Wk.done ?_) | (refine Fin.plain trivial ?_) | ((with_reducible refine top_goal ?_); kernel_rfl) | ((with_reducible refine allB_goal ?_); kernel_rfl) | ((with_reducible refine mine_goal ?_); exact mine_of rfl) | ((with_reducible refine withV_goal ?_); refine withV_mk rfl ?_) | ((with_reducible refine hsel_goal ?_); (first | (exact hsel.nil) | (refine hsel.take (HB.like.refl _) (.inr fun _ h => h) ?_) | (refine hsel.take (like_cts ?_) (.inl rfl) ?_) | (refine hsel.skip (spare_own rfl rfl) ?_) | (refine hsel.skip spare_ro ?_))) | (refine And.intro ?_ ?_) | (intro hq; (try simp only [BF.H, Cel.eta, Rul.eta, Grd.eta, if_true, if_false] at hq); (try (exfalso; first | omega | (simp [BF.b] at hq; done)))))
      all_goals (try simp only [Cel.eta, Rul.eta, Grd.eta, if_true, if_false])
      all_goals (first | (with_reducible rfl) | (with_reducible exact trivial) | (with_reducible exact splitN_zero) | ((with_reducible refine fsub_goal ?_); exact trivial) | (with_reducible assumption) | ((with_reducible refine ble_goal ?_); rfl) | omega | skip)
      all_goals (first | (simp [Cel.eta, Rul.eta, Grd.eta, den, denL, den_ofConst, BF.b, bfOf, Cel.sv, Rul.sv, Rul.ok]; done) | (simp [Cel.eta, Rul.eta, Grd.eta, den, denL, den_ofConst, BF.b, bfOf, Cel.sv, Rul.sv, Rul.ok]; omega) | (simp [Cel.eta, Rul.eta, Grd.eta, den, denL, den_ofConst, BF.b, bfOf, Cel.sv, Rul.sv, Rul.ok]; (repeat' split) <;> omega) | (simp [Cel.eta, Rul.eta, Grd.eta, den, denL, den_ofConst, BF.b, bfOf, Cel.sv, Rul.sv, Rul.ok]; rw [Bool.eq_iff_iff]; (repeat' split) <;> simp <;> omega) | (simp [Cel.eta, Rul.eta, Grd.eta, den, denL, den_ofConst, BF.b, bfOf, Cel.sv, Rul.sv, Rul.ok, *]; done) | (simp [Cel.eta, Rul.eta, Grd.eta, den, denL, den_ofConst, BF.b, bfOf, Cel.sv, Rul.sv, Rul.ok, *]; omega))
    · exact hK.elim
def G6 : List (Nat × Ctr) := (34, c_cell_ValidRule) :: G5
theorem okG6 : GsOk Try.prog G6 := GsOk.cons k_cell_ValidRule okG5
def c_refA_ValidRule : Ctr := fun args _ K => match args with
  | [x0] => r1 x0 fun r => K (.bool (.atom (Rul.ok r)))
  | _ => False
noncomputable def X_refA_ValidRule : Env Try.prog := ⟨Try.f35.ntmps, TT, G6, E0, Try.f35.results.toList, [], TT_ok, okG6, okE0, mixed⟩
theorem k_refA_ValidRule : COk Try.prog 35 c_refA_ValidRule :=
  ctr_of_wk X_refA_ValidRule Try.func35 rfl (by kernel_rfl) rfl rfl fun args hp K hK => by
    unfold c_refA_ValidRule at hK
    split at hK
    · obtain ⟨r, hK1, e0⟩ := iff_r1 hK; clear hK; have hK := hK1; clear hK1
      refine ⟨[Rul.sv r], [], _, denL_cons (e0.symm) (rfl), trivial, fun _ _ b hb => (by cases hb), hK, Nat.le_of_ble_eq_true rfl, ?_⟩
      clear hK
      repeat' (first | (refine Wk.op ?_; intro K' hK') | (refine Wk.xqOp ?_; intro K' hK') | (refine Wk.rgOne ?_; intro K' hK') | (refine Wk.rgPure ?_; intro K' hK') | (refine Wk.rgX ?_; intro K' hK') | (refine Wk.xqNew ?_; intro K' hK') | (refine Wk.xqEnd ?_) | (refine Wk.rgDone ?_) | (refine Wk.rgTwo ?_ ?_ <;> intro K' hK') | (refine hK' _ _ ?_; clear hK' K') | (refine hK' _ ?_; clear hK' K') | (refine hKT _ ?_; clear hKT hKF KT KF) | (refine hKF _ ?_; clear hKT hKF KT KF) | (refine Wk.cond ?_; intro KT KF hKT hKF) | (refine Wk.ret ?_) | (refine Wk.draw ?_ ?_ ?_; rotate_left 2; (intro K' hK')) | (refine Wk.step rfl ?_) | (refine Wk.done ?_) | (refine Fin.plain trivial ?_) | ((with_reducible refine top_goal ?_); kernel_rfl) | ((with_reducible refine allB_goal ?_); kernel_rfl) | ((with_reducible refine mine_goal ?_); exact mine_of rfl) | ((with_reducible refine withV_goal ?_); refine withV_mk rfl ?_) | ((with_reducible refine hsel_goal ?_); (first | (exact hsel.nil) | (refine hsel.take (HB.like.refl _) (.inr fun _ h => h) ?_) | (refine hsel.take (like_cts ?_) (.inl rfl) ?_) | (refine hsel.skip (spare_own rfl rfl) ?_) | (refine hsel.skip spare_ro ?_))) | (refine And.intro ?_ ?_) | (intro hq; (try simp only [BF.H, Cel.eta, Rul.eta, Grd.eta, if_true, if_false] at hq); (try (exfalso; first | omega | (simp [BF.b] at hq; done)))))
      all_goals (try simp only [Cel.eta, Rul.eta, Grd.eta, if_true, if_false])
      all_goals (first | (with_reducible rfl) | (with_reducible exact trivial) | (with_reducible exact splitN_zero) | ((with_reducible refine fsub_goal ?_); exact trivial) | (with_reducible assumption) | ((with_reducible refine ble_goal ?_); rfl) | omega | skip)
      all_goals (first | (simp [Cel.eta, Rul.eta, Grd.eta, den, denL, den_ofConst, BF.b, bfOf, Cel.sv, Rul.sv, Rul.ok]; done) | (simp [Cel.eta, Rul.eta, Grd.eta, den, denL, den_ofConst, BF.b, bfOf, Cel.sv, Rul.sv, Rul.ok]; omega) | (simp [Cel.eta, Rul.eta, Grd.eta, den, denL, den_ofConst, BF.b, bfOf, Cel.sv, Rul.sv, Rul.ok]; (repeat' split) <;> omega) | (simp [Cel.eta, Rul.eta, Grd.eta, den, denL, den_ofConst, BF.b, bfOf, Cel.sv, Rul.sv, Rul.ok]; rw [Bool.eq_iff_iff]; (repeat' split) <;> simp <;> omega) | (simp [Cel.eta, Rul.eta, Grd.eta, den, denL, den_ofConst, BF.b, bfOf, Cel.sv, Rul.sv, Rul.ok, *]; done) | (simp [Cel.eta, Rul.eta, Grd.eta, den, denL, den_ofConst, BF.b, bfOf, Cel.sv, Rul.sv, Rul.ok, *]; omega))
    · exact hK.elim
def G7 : List (Nat × Ctr) := (35, c_refA_ValidRule) :: G6
theorem okG7 : GsOk Try.prog G7 := GsOk.cons k_refA_ValidRule okG6
def c_cell_pairs : Ctr := fun args _ K => match args with
  | [x0] => c1 x0 fun c => K (.tup [.int .i64 c.h, .int .i64 c.v])
  | _ => False
noncomputable def X_cell_pairs : Env Try.prog := ⟨Try.f84.ntmps, TT, G7, E0, Try.f84.results.toList, [(1, .x [0, 1, 2, 3, 4, 5, 6, 7, 8, 9, 10, 11] [] (.done))], TT_ok, okG7, okE0, mixed⟩
theorem k_cell_pairs : COk Try.prog 84 c_cell_pairs :=
  ctr_of_wk X_cell_pairs Try.func84 rfl (by kernel_rfl) rfl rfl fun args hp K hK => by
    unfold c_cell_pairs at hK
    split at hK
    · obtain ⟨c, hK1, e0⟩ := iff_c1 hK; clear hK; have hK := hK1; clear hK1
      refine ⟨[Cel.sv c], [], _, denL_cons (e0.symm) (rfl), trivial, fun _ _ b hb => (by cases hb), hK, Nat.le_of_ble_eq_true rfl, ?_⟩
      clear hK
      repeat' (first | (refine Wk.op ?_; intro K' hK') | (refine Wk.xqOp ?_; intro K' hK') | (refine Wk.rgOne ?_; intro K' hK') | (refine Wk.rgPure ?_; intro K' hK') | (refine Wk.rgX ?_; intro K' hK') | (refine Wk.xqNew ?_; intro K' hK') | (refine Wk.xqEnd ?_) | (refine Wk.rgDone ?_) | (refine Wk.rgTwo ?_ ?_ <;> intro K' hK') | (refine hK' _ _ ?_; clear hK' K') | (refine hK' _ ?_; clear hK' K') | (refine hKT _ ?_; clear hKT hKF KT KF) | (refine hKF _ ?_; clear hKT hKF KT KF) | (refine Wk.cond ?_; intro KT KF hKT hKF) | (refine Wk.ret ?_) | (refine Wk.draw ?_ ?_ ?_; rotate_left 2; (intro K' hK')) | (refine Wk.step rfl ?_) | (refine Wk.done ?_) | (refine Fin.plain trivial ?_) | ((with_reducible refine top_goal ?_); kernel_rfl) | ((with_reducible refine allB_goal ?_); kernel_rfl) | ((with_reducible refine mine_goal ?_); exact mine_of rfl) | ((with_reducible refine withV_goal ?_); refine withV_mk rfl ?_) | ((with_reducible refine hsel_goal ?_); (first | (exact hsel.nil) | (refine hsel.take (HB.like.refl _) (.inr fun _ h => h) ?_) | (refine hsel.take (like_cts ?_) (.inl rfl) ?_) | (refine hsel.skip (spare_own rfl rfl) ?_) | (refine hsel.skip spare_ro ?_))) | (refine And.intro ?_ ?_) | (intro hq; (try simp only [BF.H, Cel.eta, Rul.eta, Grd.eta, if_true, if_false] at hq); (try (exfalso; first | omega | (simp [BF.b] at hq; done)))))
      all_goals (try simp only [Cel.eta, Rul.eta, Grd.eta, if_true, if_false])
      all_goals (first | (with_reducible rfl) | (with_reducible exact trivial) | (with_reducible exact splitN_zero) | ((with_reducible refine fsub_goal ?_); exact trivial) | (with_reducible assumption) | ((with_reducible refine ble_goal ?_); rfl) | omega | skip)
      all_goals (first | (simp [Cel.eta, Rul.eta, Grd.eta, den, denL, den_ofConst, BF.b, bfOf, Cel.sv, Rul.sv, Cel.h, Cel.v]; done) | (simp [Cel.eta, Rul.eta, Grd.eta, den, denL, den_ofConst, BF.b, bfOf, Cel.sv, Rul.sv, Cel.h, Cel.v]; omega) | (simp [Cel.eta, Rul.eta, Grd.eta, den, denL, den_ofConst, BF.b, bfOf, Cel.sv, Rul.sv, Cel.h, Cel.v]; (repeat' split) <;> omega) | (simp [Cel.eta, Rul.eta, Grd.eta, den, denL, den_ofConst, BF.b, bfOf, Cel.sv, Rul.sv, Cel.h, Cel.v]; rw [Bool.eq_iff_iff]; (repeat' split) <;> simp <;> omega) | (simp [Cel.eta, Rul.eta, Grd.eta, den, denL, den_ofConst, BF.b, bfOf, Cel.sv, Rul.sv, Cel.h, Cel.v, *]; done) | (simp [Cel.eta, Rul.eta, Grd.eta, den, denL, den_ofConst, BF.b, bfOf, Cel.sv, Rul.sv, Cel.h, Cel.v, *]; omega))
    · exact hK.elim
def G8 : List (Nat × Ctr) := (84, c_cell_pairs) :: G7
theorem okG8 : GsOk Try.prog G8 := GsOk.cons k_cell_pairs okG7
def c_cell_placed : Ctr := fun args _ K => match args with
  | [x0, x1] => c1 x0 fun c => i1 x1 fun p => (c.ok = true ∧ 0 ≤ p ∧ p ≤ c.h + c.v) ∧ K (Cel.sv (c.placed p))
  | _ => False
noncomputable def X_cell_placed : Env Try.prog := ⟨Try.f82.ntmps, TT, G8, E0, Try.f82.results.toList, [], TT_ok, okG8, okE0, mixed⟩
theorem k_cell_placed : COk Try.prog 82 c_cell_placed :=
  ctr_of_wk X_cell_placed Try.func82 rfl (by kernel_rfl) rfl rfl fun args hp K hK => by
    unfold c_cell_placed at hK
    split at hK
    · obtain ⟨c, hK1, e0⟩ := iff_c1 hK; clear hK; have hK := hK1; clear hK1
      obtain ⟨p, hK1, e1⟩ := iff_i1 hK; clear hK; have hK := hK1; clear hK1
      obtain ⟨hpre, hK⟩ := hK
      have hf := Cel.facts hpre.1
      refine ⟨[Cel.sv c, .int .i64 p], [], _, denL_cons (e0.symm) (denL_cons (e1.symm) (rfl)), trivial, fun _ _ b hb => (by cases hb), hK, Nat.le_of_ble_eq_true rfl, ?_⟩
      clear hK
      repeat' (first | (refine Wk.op ?_; intro K' hK') | (refine Wk.xqOp ?_; intro K' hK') | (refine Wk.rgOne ?_; intro K' hK') | (refine Wk.rgPure ?_; intro K' hK') | (refine Wk.rgX ?_; intro K' hK') | (refine Wk.xqNew ?_; intro K' hK') | (refine Wk.xqEnd ?_) | (refine Wk.rgDone ?_) | (refine Wk.rgTwo ?_ ?_ <;> intro K' hK') | (refine hK' _ _ ?_; clear hK' K') | (refine hK' _ ?_; clear hK' K') | (refine hKT _ ?_; clear hKT hKF KT KF) | (refine hKF _ ?_; clear hKT hKF KT KF) | (refine Wk.cond ?_; intro KT KF hKT hKF) | (refine Wk.ret ?_) | (refine Wk.draw ?_ ?_ ?_; rotate_left 2; (intro K' hK')) | (refine Wk.step rfl ?_) | (refine Wk.done ?_) | (refine Fin.plain trivial ?_) | ((with_reducible refine top_goal ?_); kernel_rfl) | ((with_reducible refine allB_goal ?_); kernel_rfl) | ((with_reducible refine mine_goal ?_); exact mine_of rfl) | ((with_reducible refine withV_goal ?_); refine withV_mk rfl ?_) | ((with_reducible refine hsel_goal ?_); (first | (exact hsel.nil) | (refine hsel.take (HB.like.refl _) (.inr fun _ h => h) ?_) | (refine hsel.take (like_cts ?_) (.inl rfl) ?_) | (refine hsel.skip (spare_own rfl rfl) ?_) | (refine hsel.skip spare_ro ?_))) | (refine And.intro ?_ ?_) | (intro hq; (try simp only [BF.H, Cel.eta, Rul.eta, Grd.eta, if_true, if_false] at hq); (try (exfalso; first | omega | (simp [BF.b] at hq; done)))))
      all_goals (try simp only [Cel.eta, Rul.eta, Grd.eta, if_true, if_false])
      all_goals (first | (with_reducible rfl) | (with_reducible exact trivial) | (with_reducible exact splitN_zero) | ((with_reducible refine fsub_goal ?_); exact trivial) | (with_reducible assumption) | ((with_reducible refine ble_goal ?_); rfl) | omega | skip)
      all_goals (first | (simp [Cel.eta, Rul.eta, Grd.eta, den, denL, den_ofConst, BF.b, bfOf, Cel.sv, Rul.sv, Cel.placed]; done) | (simp [Cel.eta, Rul.eta, Grd.eta, den, denL, den_ofConst, BF.b, bfOf, Cel.sv, Rul.sv, Cel.placed]; omega) | (simp [Cel.eta, Rul.eta, Grd.eta, den, denL, den_ofConst, BF.b, bfOf, Cel.sv, Rul.sv, Cel.placed]; (repeat' split) <;> omega) | (simp [Cel.eta, Rul.eta, Grd.eta, den, denL, den_ofConst, BF.b, bfOf, Cel.sv, Rul.sv, Cel.placed]; rw [Bool.eq_iff_iff]; (repeat' split) <;> simp <;> omega) | (simp [Cel.eta, Rul.eta, Grd.eta, den, denL, den_ofConst, BF.b, bfOf, Cel.sv, Rul.sv, Cel.placed, *]; done) | (simp [Cel.eta, Rul.eta, Grd.eta, den, denL, den_ofConst, BF.b, bfOf, Cel.sv, Rul.sv, Cel.placed, *]; omega))
    · exact hK.elim
def G9 : List (Nat × Ctr) := (82, c_cell_placed) :: G8
theorem okG9 : GsOk Try.prog G9 := GsOk.cons k_cell_placed okG8
def c_cell_turned_1 : Ctr := fun args _ K => match args with
  | [x0, x1] => i1 x0 fun h => i1 x1 fun a => K (.int .i64 h)
  | _ => False
noncomputable def X_cell_turned_1 : Env Try.prog := ⟨Try.f147.ntmps, TT, G9, E0, Try.f147.results.toList, [], TT_ok, okG9, okE0, mixed⟩
theorem k_cell_turned_1 : COk Try.prog 147 c_cell_turned_1 :=
  ctr_of_wk X_cell_turned_1 Try.func147 rfl (by kernel_rfl) rfl rfl fun args hp K hK => by
    unfold c_cell_turned_1 at hK
    split at hK
    · obtain ⟨h, hK1, e0⟩ := iff_i1 hK; clear hK; have hK := hK1; clear hK1
      obtain ⟨a, hK1, e1⟩ := iff_i1 hK; clear hK; have hK := hK1; clear hK1
      refine ⟨[.int .i64 h, .int .i64 a], [], _, denL_cons (e0.symm) (denL_cons (e1.symm) (rfl)), trivial, fun _ _ b hb => (by cases hb), hK, Nat.le_of_ble_eq_true rfl, ?_⟩
      clear hK
      repeat' (first | (refine Wk.op ?_; intro K' hK') | (refine Wk.xqOp ?_; intro K' hK') | (refine Wk.rgOne ?_; intro K' hK') | (refine Wk.rgPure ?_; intro K' hK') | (refine Wk.rgX ?_; intro K' hK') | (refine Wk.xqNew ?_; intro K' hK') | (refine Wk.xqEnd ?_) | (refine Wk.rgDone ?_) | (refine Wk.rgTwo ?_ ?_ <;> intro K' hK') | (refine hK' _ _ ?_; clear hK' K') | (refine hK' _ ?_; clear hK' K') | (refine hKT _ ?_; clear hKT hKF KT KF) | (refine hKF _ ?_; clear hKT hKF KT KF) | (refine Wk.cond ?_; intro KT KF hKT hKF) | (refine Wk.ret ?_) | (refine Wk.draw ?_ ?_ ?_; rotate_left 2; (intro K' hK')) | (refine Wk.step rfl ?_) | (refine Wk.done ?_) | (refine Fin.plain trivial ?_) | ((with_reducible refine top_goal ?_); kernel_rfl) | ((with_reducible refine allB_goal ?_); kernel_rfl) | ((with_reducible refine mine_goal ?_); exact mine_of rfl) | ((with_reducible refine withV_goal ?_); refine withV_mk rfl ?_) | ((with_reducible refine hsel_goal ?_); (first | (exact hsel.nil) | (refine hsel.take (HB.like.refl _) (.inr fun _ h => h) ?_) | (refine hsel.take (like_cts ?_) (.inl rfl) ?_) | (refine hsel.skip (spare_own rfl rfl) ?_) | (refine hsel.skip spare_ro ?_))) | (refine And.intro ?_ ?_) | (intro hq; (try simp only [BF.H, Cel.eta, Rul.eta, Grd.eta, if_true, if_false] at hq); (try (exfalso; first | omega | (simp [BF.b] at hq; done)))))
      all_goals (try simp only [Cel.eta, Rul.eta, Grd.eta, if_true, if_false])
      all_goals (first | (with_reducible rfl) | (with_reducible exact trivial) | (with_reducible exact splitN_zero) | ((with_reducible refine fsub_goal ?_); exact trivial) | (with_reducible assumption) | ((with_reducible refine ble_goal ?_); rfl) | omega | skip)
      all_goals (first | (simp [Cel.eta, Rul.eta, Grd.eta, den, denL, den_ofConst, BF.b, bfOf, Cel.sv, Rul.sv]; done) | (simp [Cel.eta, Rul.eta, Grd.eta, den, denL, den_ofConst, BF.b, bfOf, Cel.sv, Rul.sv]; omega) | (simp [Cel.eta, Rul.eta, Grd.eta, den, denL, den_ofConst, BF.b, bfOf, Cel.sv, Rul.sv]; (repeat' split) <;> omega) | (simp [Cel.eta, Rul.eta, Grd.eta, den, denL, den_ofConst, BF.b, bfOf, Cel.sv, Rul.sv]; rw [Bool.eq_iff_iff]; (repeat' split) <;> simp <;> omega) | (simp [Cel.eta, Rul.eta, Grd.eta, den, denL, den_ofConst, BF.b, bfOf, Cel.sv, Rul.sv, *]; done) | (simp [Cel.eta, Rul.eta, Grd.eta, den, denL, den_ofConst, BF.b, bfOf, Cel.sv, Rul.sv, *]; omega))
    · exact hK.elim
def G10 : List (Nat × Ctr) := (147, c_cell_turned_1) :: G9
theorem okG10 : GsOk Try.prog G10 := GsOk.cons k_cell_turned_1 okG9
def c_cell_turned_2 : Ctr := fun args _ K => match args with
  | [x0, x1] => i1 x0 fun h => i1 x1 fun a => (0 ≤ h ∧ h ≤ a ∧ a ≤ 1000000000) ∧ K (.int .i64 (a - h))
  | _ => False
noncomputable def X_cell_turned_2 : Env Try.prog := ⟨Try.f148.ntmps, TT, G10, E0, Try.f148.results.toList, [], TT_ok, okG10, okE0, mixed⟩
theorem k_cell_turned_2 : COk Try.prog 148 c_cell_turned_2 :=
  ctr_of_wk X_cell_turned_2 Try.func148 rfl (by kernel_rfl) rfl rfl fun args hp K hK => by
    unfold c_cell_turned_2 at hK
    split at hK
    · obtain ⟨h, hK1, e0⟩ := iff_i1 hK; clear hK; have hK := hK1; clear hK1
      obtain ⟨a, hK1, e1⟩ := iff_i1 hK; clear hK; have hK := hK1; clear hK1
      obtain ⟨hpre, hK⟩ := hK
      refine ⟨[.int .i64 h, .int .i64 a], [], _, denL_cons (e0.symm) (denL_cons (e1.symm) (rfl)), trivial, fun _ _ b hb => (by cases hb), hK, Nat.le_of_ble_eq_true rfl, ?_⟩
      clear hK
      repeat' (first | (refine Wk.op ?_; intro K' hK') | (refine Wk.xqOp ?_; intro K' hK') | (refine Wk.rgOne ?_; intro K' hK') | (refine Wk.rgPure ?_; intro K' hK') | (refine Wk.rgX ?_; intro K' hK') | (refine Wk.xqNew ?_; intro K' hK') | (refine Wk.xqEnd ?_) | (refine Wk.rgDone ?_) | (refine Wk.rgTwo ?_ ?_ <;> intro K' hK') | (refine hK' _ _ ?_; clear hK' K') | (refine hK' _ ?_; clear hK' K') | (refine hKT _ ?_; clear hKT hKF KT KF) | (refine hKF _ ?_; clear hKT hKF KT KF) | (refine Wk.cond ?_; intro KT KF hKT hKF) | (refine Wk.ret ?_) | (refine Wk.draw ?_ ?_ ?_; rotate_left 2; (intro K' hK')) | (refine Wk.step rfl ?_) | (refine Wk.done ?_) | (refine Fin.plain trivial ?_) | ((with_reducible refine top_goal ?_); kernel_rfl) | ((with_reducible refine allB_goal ?_); kernel_rfl) | ((with_reducible refine mine_goal ?_); exact mine_of rfl) | ((with_reducible refine withV_goal ?_); refine withV_mk rfl ?_) | ((with_reducible refine hsel_goal ?_); (first | (exact hsel.nil) | (refine hsel.take (HB.like.refl _) (.inr fun _ h => h) ?_) | (refine hsel.take (like_cts ?_) (.inl rfl) ?_) | (refine hsel.skip (spare_own rfl rfl) ?_) | (refine hsel.skip spare_ro ?_))) | (refine And.intro ?_ ?_) | (intro hq; (try simp only [BF.H, Cel.eta, Rul.eta, Grd.eta, if_true, if_false] at hq); (try (exfalso; first | omega | (simp [BF.b] at hq; done)))))
      all_goals (try simp only [Cel.eta, Rul.eta, Grd.eta, if_true, if_false])
      all_goals (first | (with_reducible rfl) | (with_reducible exact trivial) | (with_reducible exact splitN_zero) | ((with_reducible refine fsub_goal ?_); exact trivial) | (with_reducible assumption) | ((with_reducible refine ble_goal ?_); rfl) | omega | skip)
      all_goals (first | (simp [Cel.eta, Rul.eta, Grd.eta, den, denL, den_ofConst, BF.b, bfOf, Cel.sv, Rul.sv]; done) | (simp [Cel.eta, Rul.eta, Grd.eta, den, denL, den_ofConst, BF.b, bfOf, Cel.sv, Rul.sv]; omega) | (simp [Cel.eta, Rul.eta, Grd.eta, den, denL, den_ofConst, BF.b, bfOf, Cel.sv, Rul.sv]; (repeat' split) <;> omega) | (simp [Cel.eta, Rul.eta, Grd.eta, den, denL, den_ofConst, BF.b, bfOf, Cel.sv, Rul.sv]; rw [Bool.eq_iff_iff]; (repeat' split) <;> simp <;> omega) | (simp [Cel.eta, Rul.eta, Grd.eta, den, denL, den_ofConst, BF.b, bfOf, Cel.sv, Rul.sv, *]; done) | (simp [Cel.eta, Rul.eta, Grd.eta, den, denL, den_ofConst, BF.b, bfOf, Cel.sv, Rul.sv, *]; omega))
    · exact hK.elim
def G11 : List (Nat × Ctr) := (148, c_cell_turned_2) :: G10
theorem okG11 : GsOk Try.prog G11 := GsOk.cons k_cell_turned_2 okG10
def c_cell_turned_3 : Ctr := fun args hp K => match args with
  | [x0, x1, x2] => i1 x0 fun h => i1 x1 fun a => p2 x2 hp fun r => (0 ≤ h ∧ h ≤ a ∧ a ≤ 1000000000 ∧ -1000000000 ≤ r.b ∧ r.b ≤ 1000000000) ∧ K (.int .i64 ((h + r.b) % (a + 1)))
  | _ => False
noncomputable def X_cell_turned_3 : Env Try.prog := ⟨Try.f149.ntmps, TT, G11, E0, Try.f149.results.toList, [], TT_ok, okG11, okE0, mixed⟩
theorem k_cell_turned_3 : COk Try.prog 149 c_cell_turned_3 :=
  ctr_of_wk X_cell_turned_3 Try.func149 rfl (by kernel_rfl) rfl rfl fun args hp K hK => by
    unfold c_cell_turned_3 at hK
    split at hK
    · obtain ⟨h, hK1, e0⟩ := iff_i1 hK; clear hK; have hK := hK1; clear hK1
      obtain ⟨a, hK1, e1⟩ := iff_i1 hK; clear hK; have hK := hK1; clear hK1
      obtain ⟨r, nmr, hK1, e2, vwr⟩ := iff_p2 hK; clear hK; have hK := hK1; clear hK1
      obtain ⟨hpre, hK⟩ := hK
      have ht := adj_tmod (a := h + r.b) (b := a + 1) (by omega)
      have h1 := Int.emod_nonneg (h + r.b) (show a + 1 ≠ 0 by omega)
      have h2 := Int.emod_lt_of_pos (h + r.b) (show 0 < a + 1 by omega)
      have h3 : (h + r.b).tmod (a + 1) = (h + r.b) % (a + 1) ∨ (h + r.b).tmod (a + 1) + (a + 1) = (h + r.b) % (a + 1) ∧ (h + r.b).tmod (a + 1) < 0 := by split at ht <;> omega
      refine ⟨[.int .i64 h, .int .i64 a, .ptr 0 nmr 0 0 0], [⟨some nmr, false, .ro, .l [.int .i64 r.k, .int .i64 r.b]⟩], _, denL_cons (e0.symm) (denL_cons (e1.symm) (denL_cons (e2) (rfl))), ⟨trivial, trivial⟩, fun w hw b hb => (by rw [List.mem_singleton] at hb; subst hb; exact vwr w hw), hK, Nat.le_of_ble_eq_true rfl, ?_⟩
      clear hK
      repeat' (first | (refine Wk.op ?_; intro K' hK') | (refine Wk.xqOp ?_; intro K' hK') | (refine Wk.rgOne ?_; intro K' hK') | (refine Wk.rgPure ?_; intro K' hK') | (refine Wk.rgX ?_; intro K' hK') | (refine Wk.xqNew ?_; intro K' hK') | (refine Wk.xqEnd ?_) | (refine Wk.rgDone ?_) | (refine Wk.rgTwo ?_ ?_ <;> intro K' hK') | (refine hK' _ _ ?_; clear hK' K') | (refine hK' _ ?_; clear hK' K') | (refine hKT _ ?_; clear hKT hKF KT KF) | (refine hKF _ ?_; clear hKT hKF KT KF) | (refine Wk.cond ?_; intro KT KF hKT hKF) | (refine Wk.ret ?_) | (refine Wk.draw ?_ ?_ ?_; rotate_left 2; (intro K' hK')) | (refine Wk.step rfl ?_) | (refine Wk.done ?_) | (refine Fin.plain trivial ?_) | ((with_reducible refine top_goal ?_); kernel_rfl) | ((with_reducible refine allB_goal ?_); kernel_rfl) | ((with_reducible refine mine_goal ?_); exact mine_of rfl) | ((with_reducible refine withV_goal ?_); refine withV_mk rfl ?_) | ((with_reducible refine hsel_goal ?_); (first | (exact hsel.nil) | (refine hsel.take (HB.like.refl _) (.inr fun _ h => h) ?_) | (refine hsel.take (like_cts ?_) (.inl rfl) ?_) | (refine hsel.skip (spare_own rfl rfl) ?_) | (refine hsel.skip spare_ro ?_))) | (refine And.intro ?_ ?_) | (intro hq; (try simp only [BF.H, Cel.eta, Rul.eta, Grd.eta, if_true, if_false] at hq); (try (exfalso; first | omega | (simp [BF.b] at hq; done)))))
      all_goals (try simp only [Cel.eta, Rul.eta, Grd.eta, if_true, if_false])
      all_goals (first | (with_reducible rfl) | (with_reducible exact trivial) | (with_reducible exact splitN_zero) | ((with_reducible refine fsub_goal ?_); exact trivial) | (with_reducible assumption) | ((with_reducible refine ble_goal ?_); rfl) | omega | skip)
      all_goals (simp [den, denL]; split at ht <;> omega)
    · exact hK.elim
def G12 : List (Nat × Ctr) := (149, c_cell_turned_3) :: G11
theorem okG12 : GsOk Try.prog G12 := GsOk.cons k_cell_turned_3 okG11
def c_cell_turned : Ctr := fun args _ K => match args with
  | [x0, x1, x2] => r1 x0 fun r => i1 x1 fun h => i1 x2 fun a => (r.ok = true ∧ 0 ≤ h ∧ h ≤ a ∧ a ≤ 1000000000) ∧ K (.int .i64 (r.turn h a))
  | _ => False
noncomputable def X_cell_turned : Env Try.prog := ⟨Try.f123.ntmps, TT, G12, E0, Try.f123.results.toList, [], TT_ok, okG12, okE0, mixed⟩
theorem k_cell_turned : COk Try.prog 123 c_cell_turned :=
  ctr_of_wk X_cell_turned Try.func123 rfl (by kernel_rfl) rfl rfl fun args hp K hK => by
    unfold c_cell_turned at hK
    split at hK
    · obtain ⟨r, hK1, e0⟩ := iff_r1 hK; clear hK; have hK := hK1; clear hK1
      obtain ⟨h, hK1, e1⟩ := iff_i1 hK; clear hK; have hK := hK1; clear hK1
      obtain ⟨a, hK1, e2⟩ := iff_i1 hK; clear hK; have hK := hK1; clear hK1
      obtain ⟨hpre, hK⟩ := hK
      have hr := Rul.ok_iff.1 hpre.1
      refine ⟨[Rul.sv r, .int .i64 h, .int .i64 a], [], _, denL_cons (e0.symm) (denL_cons (e1.symm) (denL_cons (e2.symm) (rfl))), trivial, fun _ _ b hb => (by cases hb), hK, Nat.le_of_ble_eq_true rfl, ?_⟩
      clear hK
      repeat' (first | (refine Wk.op ?_; intro K' hK') | (refine Wk.xqOp ?_; intro K' hK') | (refine Wk.rgOne ?_; intro K' hK') | (refine Wk.rgPure ?_; intro K' hK') | (refine Wk.rgX ?_; intro K' hK') | (refine Wk.xqNew ?_; intro K' hK') | (refine Wk.xqEnd ?_) | (refine Wk.rgDone ?_) | (refine Wk.rgTwo ?_ ?_ <;> intro K' hK') | (refine hK' _ _ ?_; clear hK' K') | (refine hK' _ ?_; clear hK' K') | (refine hKT _ ?_; clear hKT hKF KT KF) | (refine hKF _ ?_; clear hKT hKF KT KF) | (refine Wk.cond ?_; intro KT KF hKT hKF) | (refine Wk.ret ?_) | (refine Wk.draw ?_ ?_ ?_; rotate_left 2; (intro K' hK')) | (refine Wk.step rfl ?_) | (refine Wk.done ?_) | (refine Fin.plain trivial ?_) | ((with_reducible refine top_goal ?_); kernel_rfl) | ((with_reducible refine allB_goal ?_); kernel_rfl) | ((with_reducible refine mine_goal ?_); exact mine_of rfl) | ((with_reducible refine withV_goal ?_); refine withV_mk rfl ?_) | ((with_reducible refine hsel_goal ?_); (first | (exact hsel.nil) | (refine hsel.take (HB.like.refl _) (.inr fun _ h => h) ?_) | (refine hsel.take (like_cts ?_) (.inl rfl) ?_) | (refine hsel.skip (spare_own rfl rfl) ?_) | (refine hsel.skip spare_ro ?_))) | (refine And.intro ?_ ?_) | (intro hq; (try simp only [BF.H, Cel.eta, Rul.eta, Grd.eta, if_true, if_false] at hq); (try (exfalso; first | omega | (simp [BF.b] at hq; done)))))
      all_goals (try simp only [Cel.eta, Rul.eta, Grd.eta, if_true, if_false])
      all_goals (first | (with_reducible rfl) | (with_reducible exact trivial) | (with_reducible exact splitN_zero) | ((with_reducible refine fsub_goal ?_); exact trivial) | (with_reducible assumption) | ((with_reducible refine ble_goal ?_); rfl) | omega | skip)
      all_goals (first | (simp [Cel.eta, Rul.eta, Grd.eta, den, denL, den_ofConst, BF.b, bfOf, Cel.sv, Rul.sv, Rul.turn]; done) | (simp [Cel.eta, Rul.eta, Grd.eta, den, denL, den_ofConst, BF.b, bfOf, Cel.sv, Rul.sv, Rul.turn]; omega) | (simp [Cel.eta, Rul.eta, Grd.eta, den, denL, den_ofConst, BF.b, bfOf, Cel.sv, Rul.sv, Rul.turn]; (repeat' split) <;> omega) | (simp [Cel.eta, Rul.eta, Grd.eta, den, denL, den_ofConst, BF.b, bfOf, Cel.sv, Rul.sv, Rul.turn]; rw [Bool.eq_iff_iff]; (repeat' split) <;> simp <;> omega) | (simp [Cel.eta, Rul.eta, Grd.eta, den, denL, den_ofConst, BF.b, bfOf, Cel.sv, Rul.sv, Rul.turn, *]; done) | (simp [Cel.eta, Rul.eta, Grd.eta, den, denL, den_ofConst, BF.b, bfOf, Cel.sv, Rul.sv, Rul.turn, *]; omega))
    · exact hK.elim
def G13 : List (Nat × Ctr) := (123, c_cell_turned) :: G12
theorem okG13 : GsOk Try.prog G13 := GsOk.cons k_cell_turned okG12
def c_cell_collided : Ctr := fun args _ K => match args with
  | [x0, x1] => c1 x0 fun c => r1 x1 fun r => (c.ok = true ∧ r.ok = true) ∧ K (Cel.sv (c.after r))
  | _ => False
noncomputable def X_cell_collided : Env Try.prog := ⟨Try.f78.ntmps, TT, G13, E0, Try.f78.results.toList, [(2, .x [0, 1, 2, 3, 4, 5, 6, 7] [] (.one 8 (.done)))], TT_ok, okG13, okE0, mixed⟩
theorem k_cell_collided : COk Try.prog 78 c_cell_collided :=
  ctr_of_wk X_cell_collided Try.func78 rfl (by kernel_rfl) rfl rfl fun args hp K hK => by
    unfold c_cell_collided at hK
    split at hK
    · obtain ⟨c, hK1, e0⟩ := iff_c1 hK; clear hK; have hK := hK1; clear hK1
      obtain ⟨r, hK1, e1⟩ := iff_r1 hK; clear hK; have hK := hK1; clear hK1
      obtain ⟨hpre, hK⟩ := hK
      have hf := Cel.facts hpre.1
      have ht := Cel.turn_range hpre.1 hpre.2
      refine ⟨[Cel.sv c, Rul.sv r], [], _, denL_cons (e0.symm) (denL_cons (e1.symm) (rfl)), trivial, fun _ _ b hb => (by cases hb), hK, Nat.le_of_ble_eq_true rfl, ?_⟩
      clear hK
      repeat' (first | (refine Wk.op ?_; intro K' hK') | (refine Wk.xqOp ?_; intro K' hK') | (refine Wk.rgOne ?_; intro K' hK') | (refine Wk.rgPure ?_; intro K' hK') | (refine Wk.rgX ?_; intro K' hK') | (refine Wk.xqNew ?_; intro K' hK') | (refine Wk.xqEnd ?_) | (refine Wk.rgDone ?_) | (refine Wk.rgTwo ?_ ?_ <;> intro K' hK') | (refine hK' _ _ ?_; clear hK' K') | (refine hK' _ ?_; clear hK' K') | (refine hKT _ ?_; clear hKT hKF KT KF) | (refine hKF _ ?_; clear hKT hKF KT KF) | (refine Wk.cond ?_; intro KT KF hKT hKF) | (refine Wk.ret ?_) | (refine Wk.draw ?_ ?_ ?_; rotate_left 2; (intro K' hK')) | (refine Wk.step rfl ?_) | (refine Wk.done ?_) | (refine Fin.plain trivial ?_) | ((with_reducible refine top_goal ?_); kernel_rfl) | ((with_reducible refine allB_goal ?_); kernel_rfl) | ((with_reducible refine mine_goal ?_); exact mine_of rfl) | ((with_reducible refine withV_goal ?_); refine withV_mk rfl ?_) | ((with_reducible refine hsel_goal ?_); (first | (exact hsel.nil) | (refine hsel.take (HB.like.refl _) (.inr fun _ h => h) ?_) | (refine hsel.take (like_cts ?_) (.inl rfl) ?_) | (refine hsel.skip (spare_own rfl rfl) ?_) | (refine hsel.skip spare_ro ?_))) | (refine And.intro ?_ ?_) | (intro hq; (try simp only [BF.H, Cel.eta, Rul.eta, Grd.eta, if_true, if_false] at hq); (try (exfalso; first | omega | (simp [BF.b] at hq; done)))))
      all_goals (try simp only [Cel.eta, Rul.eta, Grd.eta, if_true, if_false])
      all_goals (first | (with_reducible rfl) | (with_reducible exact trivial) | (with_reducible exact splitN_zero) | ((with_reducible refine fsub_goal ?_); exact trivial) | (with_reducible assumption) | ((with_reducible refine ble_goal ?_); rfl) | omega | skip)
      all_goals (first | (simp [Cel.eta, Rul.eta, Grd.eta, den, denL, den_ofConst, BF.b, bfOf, Cel.sv, Rul.sv, Cel.after]; done) | (simp [Cel.eta, Rul.eta, Grd.eta, den, denL, den_ofConst, BF.b, bfOf, Cel.sv, Rul.sv, Cel.after]; omega) | (simp [Cel.eta, Rul.eta, Grd.eta, den, denL, den_ofConst, BF.b, bfOf, Cel.sv, Rul.sv, Cel.after]; (repeat' split) <;> omega) | (simp [Cel.eta, Rul.eta, Grd.eta, den, denL, den_ofConst, BF.b, bfOf, Cel.sv, Rul.sv, Cel.after]; rw [Bool.eq_iff_iff]; (repeat' split) <;> simp <;> omega) | (simp [Cel.eta, Rul.eta, Grd.eta, den, denL, den_ofConst, BF.b, bfOf, Cel.sv, Rul.sv, Cel.after, *]; done) | (simp [Cel.eta, Rul.eta, Grd.eta, den, denL, den_ofConst, BF.b, bfOf, Cel.sv, Rul.sv, Cel.after, *]; omega))
    · exact hK.elim
def G14 : List (Nat × Ctr) := (78, c_cell_collided) :: G13
theorem okG14 : GsOk Try.prog G14 := GsOk.cons k_cell_collided okG13
def c_cell_Collide : Ctr := fun args _ K => match args with
  | [x0, x1] => c1 x0 fun c => r1 x1 fun r => K (.tup [Cel.sv (c.collide r).1, .int .i64 (c.collide r).2])
  | _ => False
noncomputable def X_cell_Collide : Env Try.prog := ⟨Try.f15.ntmps, TT, G14, E0, Try.f15.results.toList, [], TT_ok, okG14, okE0, mixed⟩
theorem k_cell_Collide : COk Try.prog 15 c_cell_Collide :=
  ctr_of_wk X_cell_Collide Try.func15 rfl (by kernel_rfl) rfl rfl fun args hp K hK => by
    unfold c_cell_Collide at hK
    split at hK
    · obtain ⟨c, hK1, e0⟩ := iff_c1 hK; clear hK; have hK := hK1; clear hK1
      obtain ⟨r, hK1, e1⟩ := iff_r1 hK; clear hK; have hK := hK1; clear hK1
      refine ⟨[Cel.sv c, Rul.sv r], [], _, denL_cons (e0.symm) (denL_cons (e1.symm) (rfl)), trivial, fun _ _ b hb => (by cases hb), hK, Nat.le_of_ble_eq_true rfl, ?_⟩
      clear hK
      repeat' (first | (refine Wk.op ?_; intro K' hK') | (refine Wk.xqOp ?_; intro K' hK') | (refine Wk.rgOne ?_; intro K' hK') | (refine Wk.rgPure ?_; intro K' hK') | (refine Wk.rgX ?_; intro K' hK') | (refine Wk.xqNew ?_; intro K' hK') | (refine Wk.xqEnd ?_) | (refine Wk.rgDone ?_) | (refine Wk.rgTwo ?_ ?_ <;> intro K' hK') | (refine hK' _ _ ?_; clear hK' K') | (refine hK' _ ?_; clear hK' K') | (refine hKT _ ?_; clear hKT hKF KT KF) | (refine hKF _ ?_; clear hKT hKF KT KF) | (refine Wk.cond ?_; intro KT KF hKT hKF) | (refine Wk.ret ?_) | (refine Wk.draw ?_ ?_ ?_; rotate_left 2; (intro K' hK')) | (refine Wk.step rfl ?_) | (refine Wk.done ?_) | (refine Fin.plain trivial ?_) | ((with_reducible refine top_goal ?_); kernel_rfl) | ((with_reducible refine allB_goal ?_); kernel_rfl) | ((with_reducible refine mine_goal ?_); exact mine_of rfl) | ((with_reducible refine withV_goal ?_); refine withV_mk rfl ?_) | ((with_reducible refine hsel_goal ?_); (first | (exact hsel.nil) | (refine hsel.take (HB.like.refl _) (.inr fun _ h => h) ?_) | (refine hsel.take (like_cts ?_) (.inl rfl) ?_) | (refine hsel.skip (spare_own rfl rfl) ?_) | (refine hsel.skip spare_ro ?_))) | (refine And.intro ?_ ?_) | (intro hq; (try simp only [BF.H, Cel.eta, Rul.eta, Grd.eta, if_true, if_false] at hq); (try (exfalso; first | omega | (simp [BF.b] at hq; done)))))
      all_goals (try simp only [Cel.eta, Rul.eta, Grd.eta, if_true, if_false])
      all_goals (first | (with_reducible rfl) | (with_reducible exact trivial) | (with_reducible exact splitN_zero) | ((with_reducible refine fsub_goal ?_); exact trivial) | (with_reducible assumption) | ((with_reducible refine ble_goal ?_); rfl) | omega | skip)
      all_goals (first | (simp [Cel.eta, Rul.eta, Grd.eta, den, denL, den_ofConst, BF.b, bfOf, Cel.sv, Rul.sv, Cel.collide, Cel.zero]; done) | (simp [Cel.eta, Rul.eta, Grd.eta, den, denL, den_ofConst, BF.b, bfOf, Cel.sv, Rul.sv, Cel.collide, Cel.zero]; omega) | (simp [Cel.eta, Rul.eta, Grd.eta, den, denL, den_ofConst, BF.b, bfOf, Cel.sv, Rul.sv, Cel.collide, Cel.zero]; (repeat' split) <;> omega) | (simp [Cel.eta, Rul.eta, Grd.eta, den, denL, den_ofConst, BF.b, bfOf, Cel.sv, Rul.sv, Cel.collide, Cel.zero]; rw [Bool.eq_iff_iff]; (repeat' split) <;> simp <;> omega) | (simp [Cel.eta, Rul.eta, Grd.eta, den, denL, den_ofConst, BF.b, bfOf, Cel.sv, Rul.sv, Cel.collide, Cel.zero, *]; done) | (simp [Cel.eta, Rul.eta, Grd.eta, den, denL, den_ofConst, BF.b, bfOf, Cel.sv, Rul.sv, Cel.collide, Cel.zero, *]; omega))
    · exact hK.elim
def G15 : List (Nat × Ctr) := (15, c_cell_Collide) :: G14
theorem okG15 : GsOk Try.prog G15 := GsOk.cons k_cell_Collide okG14
def c_refA_size : Ctr := fun args _ K => match args with
  | [x0] => i1 x0 fun n => (-9223372036854775807 ≤ n ∧ n ≤ 9223372036854775807) ∧ K (.int .i64 (n.natAbs : Int))
  | _ => False
noncomputable def X_refA_size : Env Try.prog := ⟨Try.f97.ntmps, TT, G15, E0, Try.f97.results.toList, [], TT_ok, okG15, okE0, mixed⟩
theorem k_refA_size : COk Try.prog 97 c_refA_size :=
  ctr_of_wk X_refA_size Try.func97 rfl (by kernel_rfl) rfl rfl fun args hp K hK => by
    unfold c_refA_size at hK
    split at hK
    · obtain ⟨n, hK1, e0⟩ := iff_i1 hK; clear hK; have hK := hK1; clear hK1
      obtain ⟨hpre, hK⟩ := hK
      refine ⟨[.int .i64 n], [], _, denL_cons (e0.symm) (rfl), trivial, fun _ _ b hb => (by cases hb), hK, Nat.le_of_ble_eq_true rfl, ?_⟩
      clear hK
      repeat' (first | (refine Wk.op ?_; intro K' hK') | (refine Wk.xqOp ?_; intro K' hK') | (refine Wk.rgOne ?_; intro K' hK') | (refine Wk.rgPure ?_; intro K' hK') | (refine Wk.rgX ?_; intro K' hK') | (refine Wk.xqNew ?_; intro K' hK') | (refine Wk.xqEnd ?_) | (refine Wk.rgDone ?_) | (refine Wk.rgTwo ?_ ?_ <;> intro K' hK') | (refine hK' _ _ ?_; clear hK' K') | (refine hK' _ ?_; clear hK' K') | (refine hKT _ ?_; clear hKT hKF KT KF) | (refine hKF _ ?_; clear hKT hKF KT KF) | (refine Wk.cond ?_; intro KT KF hKT hKF) | (refine Wk.ret ?_) | (refine Wk.draw ?_ ?_ ?_; rotate_left 2; (intro K' hK')) | (refine Wk.step rfl ?_) | (refine Wk.done ?_) | (refine Fin.plain trivial ?_) | ((with_reducible refine top_goal ?_); kernel_rfl) | ((with_reducible refine allB_goal ?_); kernel_rfl) | ((with_reducible refine mine_goal ?_); exact mine_of rfl) | ((with_reducible refine withV_goal ?_); refine withV_mk rfl ?_) | ((with_reducible refine hsel_goal ?_); (first | (exact hsel.nil) | (refine hsel.take (HB.like.refl _) (.inr fun _ h => h) ?_) | (refine hsel.take (like_cts ?_) (.inl rfl) ?_) | (refine hsel.skip (spare_own rfl rfl) ?_) | (refine hsel.skip spare_ro ?_))) | (refine And.intro ?_ ?_) | (intro hq; (try simp only [BF.H, Cel.eta, Rul.eta, Grd.eta, if_true, if_false] at hq); (try (exfalso; first | omega | (simp [BF.b] at hq; done)))))
      all_goals (try simp only [Cel.eta, Rul.eta, Grd.eta, if_true, if_false])
      all_goals (first | (with_reducible rfl) | (with_reducible exact trivial) | (with_reducible exact splitN_zero) | ((with_reducible refine fsub_goal ?_); exact trivial) | (with_reducible assumption) | ((with_reducible refine ble_goal ?_); rfl) | omega | skip)
      all_goals (first | (simp [Cel.eta, Rul.eta, Grd.eta, den, denL, den_ofConst, BF.b, bfOf, Cel.sv, Rul.sv]; done) | (simp [Cel.eta, Rul.eta, Grd.eta, den, denL, den_ofConst, BF.b, bfOf, Cel.sv, Rul.sv]; omega) | (simp [Cel.eta, Rul.eta, Grd.eta, den, denL, den_ofConst, BF.b, bfOf, Cel.sv, Rul.sv]; (repeat' split) <;> omega) | (simp [Cel.eta, Rul.eta, Grd.eta, den, denL, den_ofConst, BF.b, bfOf, Cel.sv, Rul.sv]; rw [Bool.eq_iff_iff]; (repeat' split) <;> simp <;> omega) | (simp [Cel.eta, Rul.eta, Grd.eta, den, denL, den_ofConst, BF.b, bfOf, Cel.sv, Rul.sv, *]; done) | (simp [Cel.eta, Rul.eta, Grd.eta, den, denL, den_ofConst, BF.b, bfOf, Cel.sv, Rul.sv, *]; omega))
    · exact hK.elim
def G16 : List (Nat × Ctr) := (97, c_refA_size) :: G15
theorem okG16 : GsOk Try.prog G16 := GsOk.cons k_refA_size okG15
def c_refA_least : Ctr := fun args _ K => match args with
  | [x0, x1] => i1 x0 fun a => i1 x1 fun b => K (.int .i64 (min a b))
  | _ => False
noncomputable def X_refA_least : Env Try.prog := ⟨Try.f90.ntmps, TT, G16, E0, Try.f90.results.toList, [], TT_ok, okG16, okE0, mixed⟩
theorem k_refA_least : COk Try.prog 90 c_refA_least :=
  ctr_of_wk X_refA_least Try.func90 rfl (by kernel_rfl) rfl rfl fun args hp K hK => by
    unfold c_refA_least at hK
    split at hK
    · obtain ⟨a, hK1, e0⟩ := iff_i1 hK; clear hK; have hK := hK1; clear hK1
      obtain ⟨b, hK1, e1⟩ := iff_i1 hK; clear hK; have hK := hK1; clear hK1
      refine ⟨[.int .i64 a, .int .i64 b], [], _, denL_cons (e0.symm) (denL_cons (e1.symm) (rfl)), trivial, fun _ _ b hb => (by cases hb), hK, Nat.le_of_ble_eq_true rfl, ?_⟩
      clear hK
      repeat' (first | (refine Wk.op ?_; intro K' hK') | (refine Wk.xqOp ?_; intro K' hK') | (refine Wk.rgOne ?_; intro K' hK') | (refine Wk.rgPure ?_; intro K' hK') | (refine Wk.rgX ?_; intro K' hK') | (refine Wk.xqNew ?_; intro K' hK') | (refine Wk.xqEnd ?_) | (refine Wk.rgDone ?_) | (refine Wk.rgTwo ?_ ?_ <;> intro K' hK') | (refine hK' _ _ ?_; clear hK' K') | (refine hK' _ ?_; clear hK' K') | (refine hKT _ ?_; clear hKT hKF KT KF) | (refine hKF _ ?_; clear hKT hKF KT KF) | (refine Wk.cond ?_; intro KT KF hKT hKF) | (refine Wk.ret ?_) | (refine Wk.draw ?_ ?_ ?_; rotate_left 2; (intro K' hK')) | (refine Wk.step rfl ?_) | (refine Wk.done ?_) | (refine Fin.plain trivial ?_) | ((with_reducible refine top_goal ?_); kernel_rfl) | ((with_reducible refine allB_goal ?_); kernel_rfl) | ((with_reducible refine mine_goal ?_); exact mine_of rfl) | ((with_reducible refine withV_goal ?_); refine withV_mk rfl ?_) | ((with_reducible refine hsel_goal ?_); (first | (exact hsel.nil) | (refine hsel.take (HB.like.refl _) (.inr fun _ h => h) ?_) | (refine hsel.take (like_cts ?_) (.inl rfl) ?_) | (refine hsel.skip (spare_own rfl rfl) ?_) | (refine hsel.skip spare_ro ?_))) | (refine And.intro ?_ ?_) | (intro hq; (try simp only [BF.H, Cel.eta, Rul.eta, Grd.eta, if_true, if_false] at hq); (try (exfalso; first | omega | (simp [BF.b] at hq; done)))))
      all_goals (try simp only [Cel.eta, Rul.eta, Grd.eta, if_true, if_false])
      all_goals (first | (with_reducible rfl) | (with_reducible exact trivial) | (with_reducible exact splitN_zero) | ((with_reducible refine fsub_goal ?_); exact trivial) | (with_reducible assumption) | ((with_reducible refine ble_goal ?_); rfl) | omega | skip)
      all_goals (first | (simp [Cel.eta, Rul.eta, Grd.eta, den, denL, den_ofConst, BF.b, bfOf, Cel.sv, Rul.sv]; done) | (simp [Cel.eta, Rul.eta, Grd.eta, den, denL, den_ofConst, BF.b, bfOf, Cel.sv, Rul.sv]; omega) | (simp [Cel.eta, Rul.eta, Grd.eta, den, denL, den_ofConst, BF.b, bfOf, Cel.sv, Rul.sv]; (repeat' split) <;> omega) | (simp [Cel.eta, Rul.eta, Grd.eta, den, denL, den_ofConst, BF.b, bfOf, Cel.sv, Rul.sv]; rw [Bool.eq_iff_iff]; (repeat' split) <;> simp <;> omega) | (simp [Cel.eta, Rul.eta, Grd.eta, den, denL, den_ofConst, BF.b, bfOf, Cel.sv, Rul.sv, *]; done) | (simp [Cel.eta, Rul.eta, Grd.eta, den, denL, den_ofConst, BF.b, bfOf, Cel.sv, Rul.sv, *]; omega))
    · exact hK.elim
def G17 : List (Nat × Ctr) := (90, c_refA_least) :: G16
theorem okG17 : GsOk Try.prog G17 := GsOk.cons k_refA_least okG16
def c_refA_of : Ctr := fun args _ K => match args with
  | [x0] => c1 x0 fun c => (c.ok = true) ∧ K (Cel.sv c.cls)
  | _ => False
noncomputable def X_refA_of : Env Try.prog := ⟨Try.f83.ntmps, TT, G17, E0, Try.f83.results.toList, [(2, .x [0, 1, 2, 3, 4, 5, 6, 7, 8, 9, 10, 11] [] (.one 12 (.done)))], TT_ok, okG17, okE0, mixed⟩
theorem k_refA_of : COk Try.prog 83 c_refA_of :=
  ctr_of_wk X_refA_of Try.func83 rfl (by kernel_rfl) rfl rfl fun args hp K hK => by
    unfold c_refA_of at hK
    split at hK
    · obtain ⟨c, hK1, e0⟩ := iff_c1 hK; clear hK; have hK := hK1; clear hK1
      obtain ⟨hpre, hK⟩ := hK
      have hf := Cel.facts hpre
      have hd : (c.e + c.n + c.w + c.s - ((c.e - c.w).natAbs : Int) - ((c.n - c.s).natAbs : Int)).tdiv 2 = c.h + c.v := by
        rw [Int.tdiv_eq_ediv_of_nonneg (by omega)]; omega
      refine ⟨[Cel.sv c], [], _, denL_cons (e0.symm) (rfl), trivial, fun _ _ b hb => (by cases hb), hK, Nat.le_of_ble_eq_true rfl, ?_⟩
      clear hK
      repeat' (first | (refine Wk.op ?_; intro K' hK') | (refine Wk.xqOp ?_; intro K' hK') | (refine Wk.rgOne ?_; intro K' hK') | (refine Wk.rgPure ?_; intro K' hK') | (refine Wk.rgX ?_; intro K' hK') | (refine Wk.xqNew ?_; intro K' hK') | (refine Wk.xqEnd ?_) | (refine Wk.rgDone ?_) | (refine Wk.rgTwo ?_ ?_ <;> intro K' hK') | (refine hK' _ _ ?_; clear hK' K') | (refine hK' _ ?_; clear hK' K') | (refine hKT _ ?_; clear hKT hKF KT KF) | (refine hKF _ ?_; clear hKT hKF KT KF) | (refine Wk.cond ?_; intro KT KF hKT hKF) | (refine Wk.ret ?_) | (refine Wk.draw ?_ ?_ ?_; rotate_left 2; (intro K' hK')) | (refine Wk.step rfl ?_) | (refine Wk.done ?_) | (refine Fin.plain trivial ?_) | ((with_reducible refine top_goal ?_); kernel_rfl) | ((with_reducible refine allB_goal ?_); kernel_rfl) | ((with_reducible refine mine_goal ?_); exact mine_of rfl) | ((with_reducible refine withV_goal ?_); refine withV_mk rfl ?_) | ((with_reducible refine hsel_goal ?_); (first | (exact hsel.nil) | (refine hsel.take (HB.like.refl _) (.inr fun _ h => h) ?_) | (refine hsel.take (like_cts ?_) (.inl rfl) ?_) | (refine hsel.skip (spare_own rfl rfl) ?_) | (refine hsel.skip spare_ro ?_))) | (refine And.intro ?_ ?_) | (intro hq; (try simp only [BF.H, Cel.eta, Rul.eta, Grd.eta, if_true, if_false] at hq); (try (exfalso; first | omega | (simp [BF.b] at hq; done)))))
      all_goals (try simp only [Cel.eta, Rul.eta, Grd.eta, if_true, if_false])
      all_goals (first | (with_reducible rfl) | (with_reducible exact trivial) | (with_reducible exact splitN_zero) | ((with_reducible refine fsub_goal ?_); exact trivial) | (with_reducible assumption) | ((with_reducible refine ble_goal ?_); rfl) | omega | skip)
      all_goals (first | (simp [Cel.eta, Rul.eta, Grd.eta, den, denL, den_ofConst, BF.b, bfOf, Cel.sv, Rul.sv, Cel.cls]; done) | (simp [Cel.eta, Rul.eta, Grd.eta, den, denL, den_ofConst, BF.b, bfOf, Cel.sv, Rul.sv, Cel.cls]; omega) | (simp [Cel.eta, Rul.eta, Grd.eta, den, denL, den_ofConst, BF.b, bfOf, Cel.sv, Rul.sv, Cel.cls]; (repeat' split) <;> omega) | (simp [Cel.eta, Rul.eta, Grd.eta, den, denL, den_ofConst, BF.b, bfOf, Cel.sv, Rul.sv, Cel.cls]; rw [Bool.eq_iff_iff]; (repeat' split) <;> simp <;> omega) | (simp [Cel.eta, Rul.eta, Grd.eta, den, denL, den_ofConst, BF.b, bfOf, Cel.sv, Rul.sv, Cel.cls, *]; done) | (simp [Cel.eta, Rul.eta, Grd.eta, den, denL, den_ofConst, BF.b, bfOf, Cel.sv, Rul.sv, Cel.cls, *]; omega))
    · exact hK.elim
def G18 : List (Nat × Ctr) := (83, c_refA_of) :: G17
theorem okG18 : GsOk Try.prog G18 := GsOk.cons k_refA_of okG17
def c_refA_class_at : Ctr := fun args _ K => match args with
  | [x0, x1] => c1 x0 fun x => i1 x1 fun p => (-1000000000 ≤ x.n ∧ x.n ≤ 1000000000 ∧ -1000000000 ≤ x.w ∧ x.w ≤ 1000000000 ∧ 0 ≤ x.s ∧ x.s ≤ 1000000000 ∧ 0 ≤ p ∧ p ≤ 1000000000) ∧ K (Cel.sv (x.clsAt p))
  | _ => False
noncomputable def X_refA_class_at : Env Try.prog := ⟨Try.f96.ntmps, TT, G18, E0, Try.f96.results.toList, [(3, .pure 0 (.pure 2 (.pure 4 (.pure 6 (.two 1 (.pure 3 (.pure 8 (.two 5 (.pure 7 (.one 9 (.one 10 (.one 11 (.done))))) 9 (.one 5 (.one 7 (.one 10 (.one 11 (.done)))))))) 5 (.pure 7 (.one 1 (.one 3 (.one 8 (.one 9 (.one 10 (.one 11 (.done)))))))))))))], TT_ok, okG18, okE0, mixed⟩
set_option maxHeartbeats 4000000 in
theorem k_refA_class_at : COk Try.prog 96 c_refA_class_at :=
  ctr_of_wk X_refA_class_at Try.func96 rfl (by kernel_rfl) rfl rfl fun args hp K hK => by
    unfold c_refA_class_at at hK
    split at hK
    · obtain ⟨x, hK1, e0⟩ := iff_c1 hK; clear hK; have hK := hK1; clear hK1
      obtain ⟨p, hK1, e1⟩ := iff_i1 hK; clear hK; have hK := hK1; clear hK1
      obtain ⟨hpre, hK⟩ := hK
      obtain ⟨h1, h2, h3, h4, h5, h6, h7, h8⟩ := hpre
      refine ⟨[Cel.sv x, .int .i64 p], [], _, denL_cons (e0.symm) (denL_cons (e1.symm) (rfl)), trivial, fun _ _ b hb => (by cases hb), hK, Nat.le_of_ble_eq_true rfl, ?_⟩
      clear hK
      repeat' (first | (refine Wk.join (X := X_refA_class_at) (x := .region 3 _ _) (ι := Unit) (fun u => True) [1, 2, 4, 5] (fun u => []) (fun u => [(2, fun b => ⟨b.nm, b.own, b.kd, .l [.int .i64 p, .int .i64 (x.s - p), .int .i64 p, .int .i64 (x.s - p)]⟩)]) ?_; intro K' hK'; refine hK' _ ?_ ?_ <;> clear hK' K'; rotate_left; (intro i hi; (try obtain ⟨u⟩ := i); have hI : True := hi; clear hi); rotate_left; refine Wk.draw ?_ ?_ ?_; rotate_left 2; (intro K' hK')) | ((with_reducible refine k_goal ?_); refine Wk.k (X := X_refA_class_at) ⟨(), ?_, ?_, ?_⟩) | (refine Wk.op ?_; intro K' hK') | (refine Wk.xqOp ?_; intro K' hK') | (refine Wk.rgOne ?_; intro K' hK') | (refine Wk.rgPure ?_; intro K' hK') | (refine Wk.rgX ?_; intro K' hK') | (refine Wk.xqNew ?_; intro K' hK') | (refine Wk.xqEnd ?_) | (refine Wk.rgDone ?_) | (refine Wk.rgTwo ?_ ?_ <;> intro K' hK') | (refine hK' _ _ ?_; clear hK' K') | (refine hK' _ ?_; clear hK' K') | (refine hKT _ ?_; clear hKT hKF KT KF) | (refine hKF _ ?_; clear hKT hKF KT KF) | (refine Wk.cond ?_; intro KT KF hKT hKF) | (refine Wk.ret ?_) | (refine Wk.draw ?_ ?_ ?_; rotate_left 2; (intro K' hK')) | (refine Wk.step rfl ?_) | (refine Wk.done ?_) | (refine Fin.plain trivial ?_) | ((with_reducible refine top_goal ?_); kernel_rfl) | ((with_reducible refine allB_goal ?_); kernel_rfl) | ((with_reducible refine mine_goal ?_); exact mine_of rfl) | ((with_reducible refine withV_goal ?_); refine withV_mk rfl ?_) | ((with_reducible refine hsel_goal ?_); (first | (exact hsel.nil) | (refine hsel.take (HB.like.refl _) (.inr fun _ h => h) ?_) | (refine hsel.take (like_cts ?_) (.inl rfl) ?_) | (refine hsel.skip (spare_own rfl rfl) ?_) | (refine hsel.skip spare_ro ?_))) | (refine And.intro ?_ ?_) | (intro hq; (try simp only [BF.H, Cel.eta, Rul.eta, Grd.eta, if_true, if_false] at hq); (try (exfalso; first | omega | (simp [BF.b] at hq; done)))))
      all_goals (try simp only [Cel.eta, Rul.eta, Grd.eta, if_true, if_false])
      all_goals (first | (with_reducible rfl) | (with_reducible exact trivial) | (with_reducible exact splitN_zero) | ((with_reducible refine fsub_goal ?_); exact trivial) | (with_reducible assumption) | ((with_reducible refine ble_goal ?_); rfl) | omega | skip)
      all_goals (first | (simp [Cel.eta, Rul.eta, Grd.eta, den, denL, den_ofConst, BF.b, bfOf, Cel.sv, Rul.sv, Cel.clsAt]; done) | (simp [Cel.eta, Rul.eta, Grd.eta, den, denL, den_ofConst, BF.b, bfOf, Cel.sv, Rul.sv, Cel.clsAt]; omega) | (simp [Cel.eta, Rul.eta, Grd.eta, den, denL, den_ofConst, BF.b, bfOf, Cel.sv, Rul.sv, Cel.clsAt]; (repeat' split) <;> omega) | (simp [Cel.eta, Rul.eta, Grd.eta, den, denL, den_ofConst, BF.b, bfOf, Cel.sv, Rul.sv, Cel.clsAt]; rw [Bool.eq_iff_iff]; (repeat' split) <;> simp <;> omega) | (simp [Cel.eta, Rul.eta, Grd.eta, den, denL, den_ofConst, BF.b, bfOf, Cel.sv, Rul.sv, Cel.clsAt, *]; done) | (simp [Cel.eta, Rul.eta, Grd.eta, den, denL, den_ofConst, BF.b, bfOf, Cel.sv, Rul.sv, Cel.clsAt, *]; omega))
    · exact hK.elim
def G19 : List (Nat × Ctr) := (96, c_refA_class_at) :: G18
theorem okG19 : GsOk Try.prog G19 := GsOk.cons k_refA_class_at okG18
def c_refA_modulo : Ctr := fun args _ K => match args with
  | [x0, x1] => i1 x0 fun a => i1 x1 fun b => (0 < b ∧ b ≤ 9000000000 ∧ -9000000000000000000 ≤ a ∧ a ≤ 9000000000000000000) ∧ K (.int .i64 (a % b))
  | _ => False
noncomputable def X_refA_modulo : Env Try.prog := ⟨Try.f150.ntmps, TT, G19, E0, Try.f150.results.toList, [], TT_ok, okG19, okE0, mixed⟩
theorem k_refA_modulo : COk Try.prog 150 c_refA_modulo :=
  ctr_of_wk X_refA_modulo Try.func150 rfl (by kernel_rfl) rfl rfl fun args hp K hK => by
    unfold c_refA_modulo at hK
    split at hK
    · obtain ⟨a, hK1, e0⟩ := iff_i1 hK; clear hK; have hK := hK1; clear hK1
      obtain ⟨b, hK1, e1⟩ := iff_i1 hK; clear hK; have hK := hK1; clear hK1
      obtain ⟨hpre, hK⟩ := hK
      have ht := adj_tmod (a := a) (b := b) (by omega)
      have h1 := Int.emod_nonneg a (show b ≠ 0 by omega)
      have h2 := Int.emod_lt_of_pos a (show 0 < b by omega)
      have h3 : a.tmod b = a % b ∨ a.tmod b + b = a % b ∧ a.tmod b < 0 := by split at ht <;> omega
      refine ⟨[.int .i64 a, .int .i64 b], [], _, denL_cons (e0.symm) (denL_cons (e1.symm) (rfl)), trivial, fun _ _ b hb => (by cases hb), hK, Nat.le_of_ble_eq_true rfl, ?_⟩
      clear hK
      repeat' (first | (refine Wk.op ?_; intro K' hK') | (refine Wk.xqOp ?_; intro K' hK') | (refine Wk.rgOne ?_; intro K' hK') | (refine Wk.rgPure ?_; intro K' hK') | (refine Wk.rgX ?_; intro K' hK') | (refine Wk.xqNew ?_; intro K' hK') | (refine Wk.xqEnd ?_) | (refine Wk.rgDone ?_) | (refine Wk.rgTwo ?_ ?_ <;> intro K' hK') | (refine hK' _ _ ?_; clear hK' K') | (refine hK' _ ?_; clear hK' K') | (refine hKT _ ?_; clear hKT hKF KT KF) | (refine hKF _ ?_; clear hKT hKF KT KF) | (refine Wk.cond ?_; intro KT KF hKT hKF) | (refine Wk.ret ?_) | (refine Wk.draw ?_ ?_ ?_; rotate_left 2; (intro K' hK')) | (refine Wk.step rfl ?_) | (refine Wk.done ?_) | (refine Fin.plain trivial ?_) | ((with_reducible refine top_goal ?_); kernel_rfl) | ((with_reducible refine allB_goal ?_); kernel_rfl) | ((with_reducible refine mine_goal ?_); exact mine_of rfl) | ((with_reducible refine withV_goal ?_); refine withV_mk rfl ?_) | ((with_reducible refine hsel_goal ?_); (first | (exact hsel.nil) | (refine hsel.take (HB.like.refl _) (.inr fun _ h => h) ?_) | (refine hsel.take (like_cts ?_) (.inl rfl) ?_) | (refine hsel.skip (spare_own rfl rfl) ?_) | (refine hsel.skip spare_ro ?_))) | (refine And.intro ?_ ?_) | (intro hq; (try simp only [BF.H, Cel.eta, Rul.eta, Grd.eta, if_true, if_false] at hq); (try (exfalso; first | omega | (simp [BF.b] at hq; done)))))
      all_goals (try simp only [Cel.eta, Rul.eta, Grd.eta, if_true, if_false])
      all_goals (first | (with_reducible rfl) | (with_reducible exact trivial) | (with_reducible exact splitN_zero) | ((with_reducible refine fsub_goal ?_); exact trivial) | (with_reducible assumption) | ((with_reducible refine ble_goal ?_); rfl) | omega | skip)
      all_goals (simp [den, denL]; split at ht <;> omega)
    · exact hK.elim
def G20 : List (Nat × Ctr) := (150, c_refA_modulo) :: G19
theorem okG20 : GsOk Try.prog G20 := GsOk.cons k_refA_modulo okG19
def c_refA_Turn : Ctr := fun args _ K => match args with
  | [x0, x1, x2] => r1 x0 fun r => i1 x1 fun h => i1 x2 fun p => (r.ok = true ∧ 0 ≤ h ∧ h ≤ p ∧ p ≤ 1000000000) ∧ K (.int .i64 (r.turn h p))
  | _ => False
noncomputable def X_refA_Turn : Env Try.prog := ⟨Try.f124.ntmps, TT, G20, E0, Try.f124.results.toList, [], TT_ok, okG20, okE0, mixed⟩
theorem k_refA_Turn : COk Try.prog 124 c_refA_Turn :=
  ctr_of_wk X_refA_Turn Try.func124 rfl (by kernel_rfl) rfl rfl fun args hp K hK => by
    unfold c_refA_Turn at hK
    split at hK
    · obtain ⟨r, hK1, e0⟩ := iff_r1 hK; clear hK; have hK := hK1; clear hK1
      obtain ⟨h, hK1, e1⟩ := iff_i1 hK; clear hK; have hK := hK1; clear hK1
      obtain ⟨p, hK1, e2⟩ := iff_i1 hK; clear hK; have hK := hK1; clear hK1
      obtain ⟨hpre, hK⟩ := hK
      have hr := Rul.ok_iff.1 hpre.1
      refine ⟨[Rul.sv r, .int .i64 h, .int .i64 p], [], _, denL_cons (e0.symm) (denL_cons (e1.symm) (denL_cons (e2.symm) (rfl))), trivial, fun _ _ b hb => (by cases hb), hK, Nat.le_of_ble_eq_true rfl, ?_⟩
      clear hK
      repeat' (first | (refine Wk.op ?_; intro K' hK') | (refine Wk.xqOp ?_; intro K' hK') | (refine Wk.rgOne ?_; intro K' hK') | (refine Wk.rgPure ?_; intro K' hK') | (refine Wk.rgX ?_; intro K' hK') | (refine Wk.xqNew ?_; intro K' hK') | (refine Wk.xqEnd ?_) | (refine Wk.rgDone ?_) | (refine Wk.rgTwo ?_ ?_ <;> intro K' hK') | (refine hK' _ _ ?_; clear hK' K') | (refine hK' _ ?_; clear hK' K') | (refine hKT _ ?_; clear hKT hKF KT KF) | (refine hKF _ ?_; clear hKT hKF KT KF) | (refine Wk.cond ?_; intro KT KF hKT hKF) | (refine Wk.ret ?_) | (refine Wk.draw ?_ ?_ ?_; rotate_left 2; (intro K' hK')) | (refine Wk.step rfl ?_) | (refine Wk.done ?_) | (refine Fin.plain trivial ?_) | ((with_reducible refine top_goal ?_); kernel_rfl) | ((with_reducible refine allB_goal ?_); kernel_rfl) | ((with_reducible refine mine_goal ?_); exact mine_of rfl) | ((with_reducible refine withV_goal ?_); refine withV_mk rfl ?_) | ((with_reducible refine hsel_goal ?_); (first | (exact hsel.nil) | (refine hsel.take (HB.like.refl _) (.inr fun _ h => h) ?_) | (refine hsel.take (like_cts ?_) (.inl rfl) ?_) | (refine hsel.skip (spare_own rfl rfl) ?_) | (refine hsel.skip spare_ro ?_))) | (refine And.intro ?_ ?_) | (intro hq; (try simp only [BF.H, Cel.eta, Rul.eta, Grd.eta, if_true, if_false] at hq); (try (exfalso; first | omega | (simp [BF.b] at hq; done)))))
      all_goals (try simp only [Cel.eta, Rul.eta, Grd.eta, if_true, if_false])
      all_goals (first | (with_reducible rfl) | (with_reducible exact trivial) | (with_reducible exact splitN_zero) | ((with_reducible refine fsub_goal ?_); exact trivial) | (with_reducible assumption) | ((with_reducible refine ble_goal ?_); rfl) | omega | skip)
      all_goals (first | (simp [Cel.eta, Rul.eta, Grd.eta, den, denL, den_ofConst, BF.b, bfOf, Cel.sv, Rul.sv, Rul.turn]; done) | (simp [Cel.eta, Rul.eta, Grd.eta, den, denL, den_ofConst, BF.b, bfOf, Cel.sv, Rul.sv, Rul.turn]; omega) | (simp [Cel.eta, Rul.eta, Grd.eta, den, denL, den_ofConst, BF.b, bfOf, Cel.sv, Rul.sv, Rul.turn]; (repeat' split) <;> omega) | (simp [Cel.eta, Rul.eta, Grd.eta, den, denL, den_ofConst, BF.b, bfOf, Cel.sv, Rul.sv, Rul.turn]; rw [Bool.eq_iff_iff]; (repeat' split) <;> simp <;> omega) | (simp [Cel.eta, Rul.eta, Grd.eta, den, denL, den_ofConst, BF.b, bfOf, Cel.sv, Rul.sv, Rul.turn, *]; done) | (simp [Cel.eta, Rul.eta, Grd.eta, den, denL, den_ofConst, BF.b, bfOf, Cel.sv, Rul.sv, Rul.turn, *]; omega))
    · exact hK.elim
def G21 : List (Nat × Ctr) := (124, c_refA_Turn) :: G20
theorem okG21 : GsOk Try.prog G21 := GsOk.cons k_refA_Turn okG20
def c_refA_After : Ctr := fun args _ K => match args with
  | [x0, x1] => c1 x0 fun c => r1 x1 fun r => (c.ok = true ∧ r.ok = true) ∧ K (Cel.sv (c.after r))
  | _ => False
noncomputable def X_refA_After : Env Try.prog := ⟨Try.f79.ntmps, TT, G21, E0, Try.f79.results.toList, [(2, .x [0, 1, 2, 3, 4, 5, 6, 7, 8, 9, 10] [] (.one 11 (.done)))], TT_ok, okG21, okE0, mixed⟩
theorem k_refA_After : COk Try.prog 79 c_refA_After :=
  ctr_of_wk X_refA_After Try.func79 rfl (by kernel_rfl) rfl rfl fun args hp K hK => by
    unfold c_refA_After at hK
    split at hK
    · obtain ⟨c, hK1, e0⟩ := iff_c1 hK; clear hK; have hK := hK1; clear hK1
      obtain ⟨r, hK1, e1⟩ := iff_r1 hK; clear hK; have hK := hK1; clear hK1
      obtain ⟨hpre, hK⟩ := hK
      have hf := Cel.facts hpre.1
      have ht := Cel.turn_range hpre.1 hpre.2
      have hc := Cel.clsAt_cls (p := r.turn c.h (c.h + c.v)) hpre.1
      have hm : min c.e c.w = c.h := rfl
      refine ⟨[Cel.sv c, Rul.sv r], [], _, denL_cons (e0.symm) (denL_cons (e1.symm) (rfl)), trivial, fun _ _ b hb => (by cases hb), hK, Nat.le_of_ble_eq_true rfl, ?_⟩
      clear hK
      repeat' (first | (refine Wk.op ?_; intro K' hK') | (refine Wk.xqOp ?_; intro K' hK') | (refine Wk.rgOne ?_; intro K' hK') | (refine Wk.rgPure ?_; intro K' hK') | (refine Wk.rgX ?_; intro K' hK') | (refine Wk.xqNew ?_; intro K' hK') | (refine Wk.xqEnd ?_) | (refine Wk.rgDone ?_) | (refine Wk.rgTwo ?_ ?_ <;> intro K' hK') | (refine hK' _ _ ?_; clear hK' K') | (refine hK' _ ?_; clear hK' K') | (refine hKT _ ?_; clear hKT hKF KT KF) | (refine hKF _ ?_; clear hKT hKF KT KF) | (refine Wk.cond ?_; intro KT KF hKT hKF) | (refine Wk.ret ?_) | (refine Wk.draw ?_ ?_ ?_; rotate_left 2; (intro K' hK')) | (refine Wk.step rfl ?_) | (refine Wk.done ?_) | (refine Fin.plain trivial ?_) | ((with_reducible refine top_goal ?_); kernel_rfl) | ((with_reducible refine allB_goal ?_); kernel_rfl) | ((with_reducible refine mine_goal ?_); exact mine_of rfl) | ((with_reducible refine withV_goal ?_); refine withV_mk rfl ?_) | ((with_reducible refine hsel_goal ?_); (first | (exact hsel.nil) | (refine hsel.take (HB.like.refl _) (.inr fun _ h => h) ?_) | (refine hsel.take (like_cts ?_) (.inl rfl) ?_) | (refine hsel.skip (spare_own rfl rfl) ?_) | (refine hsel.skip spare_ro ?_))) | (refine And.intro ?_ ?_) | (intro hq; (try simp only [BF.H, Cel.eta, Rul.eta, Grd.eta, if_true, if_false] at hq); (try (exfalso; first | omega | (simp [BF.b] at hq; done)))))
      all_goals (try simp only [Cel.eta, Rul.eta, Grd.eta, if_true, if_false])
      all_goals (first | (with_reducible rfl) | (with_reducible exact trivial) | (with_reducible exact splitN_zero) | ((with_reducible refine fsub_goal ?_); exact trivial) | (with_reducible assumption) | ((with_reducible refine ble_goal ?_); rfl) | omega | skip)
      all_goals (first | exact hpre.1 | exact hpre.2 | (simp only [Cel.cls, hm]; omega) | (simp only [hm, show c.cls.s = c.h + c.v from rfl]; omega) | (show den (Cel.sv (c.cls.clsAt (r.turn (min c.e c.w) c.cls.s))) = den (Cel.sv (c.after r)); rw [hm, show c.cls.s = c.h + c.v from rfl, hc]; rfl))
    · exact hK.elim
def G22 : List (Nat × Ctr) := (79, c_refA_After) :: G21
theorem okG22 : GsOk Try.prog G22 := GsOk.cons k_refA_After okG21
def c_lawA_awake : Ctr := fun args _ K => match args with
  | [] => K (.bool .tt)
  | _ => False
noncomputable def X_lawA_awake : Env Try.prog := ⟨Try.f21.ntmps, TT, G22, E0, Try.f21.results.toList, [], TT_ok, okG22, okE0, mixed⟩
theorem k_lawA_awake : COk Try.prog 21 c_lawA_awake :=
  ctr_of_wk X_lawA_awake Try.func21 rfl (by kernel_rfl) rfl rfl fun args hp K hK => by
    unfold c_lawA_awake at hK
    split at hK
    · refine ⟨[], [], _, rfl, trivial, fun _ _ b hb => (by cases hb), hK, Nat.le_of_ble_eq_true rfl, ?_⟩
      clear hK
      have h1 : Cel.collide ⟨5, 2, 3, 4⟩ ⟨1, 0⟩ = (⟨4, 3, 2, 5⟩, 0) := by decide
      have h2 : Cel.collide ⟨5, 2, 3, 4⟩ ⟨2, 4⟩ = (⟨3, 4, 1, 6⟩, 0) := by decide
      repeat' (first | (refine Wk.op ?_; intro K' hK') | (refine Wk.xqOp ?_; intro K' hK') | (refine Wk.rgOne ?_; intro K' hK') | (refine Wk.rgPure ?_; intro K' hK') | (refine Wk.rgX ?_; intro K' hK') | (refine Wk.xqNew ?_; intro K' hK') | (refine Wk.xqEnd ?_) | (refine Wk.rgDone ?_) | (refine Wk.rgTwo ?_ ?_ <;> intro K' hK') | (refine hK' _ _ ?_; clear hK' K') | (refine hK' _ ?_; clear hK' K') | (refine hKT _ ?_; clear hKT hKF KT KF) | (refine hKF _ ?_; clear hKT hKF KT KF) | (refine Wk.cond ?_; intro KT KF hKT hKF) | (refine Wk.ret ?_) | (refine Wk.draw ?_ ?_ ?_; rotate_left 2; (intro K' hK')) | (refine Wk.step rfl ?_) | (refine Wk.done ?_) | (refine Fin.plain trivial ?_) | ((with_reducible refine top_goal ?_); kernel_rfl) | ((with_reducible refine allB_goal ?_); kernel_rfl) | ((with_reducible refine mine_goal ?_); exact mine_of rfl) | ((with_reducible refine withV_goal ?_); refine withV_mk rfl ?_) | ((with_reducible refine hsel_goal ?_); (first | (exact hsel.nil) | (refine hsel.take (HB.like.refl _) (.inr fun _ h => h) ?_) | (refine hsel.take (like_cts ?_) (.inl rfl) ?_) | (refine hsel.skip (spare_own rfl rfl) ?_) | (refine hsel.skip spare_ro ?_))) | (refine And.intro ?_ ?_) | (intro hq; (try simp only [BF.H, Cel.eta, Rul.eta, Grd.eta, if_true, if_false] at hq); (try simp only [h1, h2] at hq); (try (exfalso; first | omega | (simp [BF.b] at hq; done)))))
      all_goals (try simp only [Cel.eta, Rul.eta, Grd.eta, if_true, if_false])
      all_goals (first | (with_reducible rfl) | (with_reducible exact trivial) | (with_reducible exact splitN_zero) | ((with_reducible refine fsub_goal ?_); exact trivial) | (with_reducible assumption) | ((with_reducible refine ble_goal ?_); rfl) | omega | skip)
      all_goals (first | (simp [Cel.eta, Rul.eta, Grd.eta, den, denL, den_ofConst, BF.b, bfOf, Cel.sv, Rul.sv, h1, h2]; done) | (simp [Cel.eta, Rul.eta, Grd.eta, den, denL, den_ofConst, BF.b, bfOf, Cel.sv, Rul.sv, h1, h2]; omega) | (simp [Cel.eta, Rul.eta, Grd.eta, den, denL, den_ofConst, BF.b, bfOf, Cel.sv, Rul.sv, h1, h2]; (repeat' split) <;> omega) | (simp [Cel.eta, Rul.eta, Grd.eta, den, denL, den_ofConst, BF.b, bfOf, Cel.sv, Rul.sv, h1, h2]; rw [Bool.eq_iff_iff]; (repeat' split) <;> simp <;> omega) | (simp [Cel.eta, Rul.eta, Grd.eta, den, denL, den_ofConst, BF.b, bfOf, Cel.sv, Rul.sv, h1, h2, *]; done) | (simp [Cel.eta, Rul.eta, Grd.eta, den, denL, den_ofConst, BF.b, bfOf, Cel.sv, Rul.sv, h1, h2, *]; omega))
    · exact hK.elim
def G23 : List (Nat × Ctr) := (21, c_lawA_awake) :: G22
theorem okG23 : GsOk Try.prog G23 := GsOk.cons k_lawA_awake okG22
def c_cell_divisor : Ctr := fun args _ K => match args with
  | [x0, x1] => i1 x0 fun a => i1 x1 fun b => (-1000000000 ≤ a ∧ a ≤ 1000000001 ∧ -1000000000 ≤ b ∧ b ≤ 1000000001 ∧ (0 < b ∨ 0 < a)) ∧ K (.int .i64 (gcdI a b))
  | _ => False
noncomputable def X_cell_divisor : Env Try.prog := ⟨Try.f91.ntmps, TT, G23, E0, Try.f91.results.toList, [], TT_ok, okG23, okE0, mixed⟩
theorem k_cell_divisor : COk Try.prog 91 c_cell_divisor :=
  ctr_of_wk X_cell_divisor Try.func91 rfl (by kernel_rfl) rfl rfl fun args hp K hK => by
    unfold c_cell_divisor at hK
    split at hK
    · obtain ⟨a, hK1, e0⟩ := iff_i1 hK; clear hK; have hK := hK1; clear hK1
      obtain ⟨b, hK1, e1⟩ := iff_i1 hK; clear hK; have hK := hK1; clear hK1
      obtain ⟨hpre, hK⟩ := hK
      refine ⟨[.int .i64 a, .int .i64 b], [], _, denL_cons (e0.symm) (denL_cons (e1.symm) (rfl)), trivial, fun _ _ b hb => (by cases hb), hK, Nat.le_of_ble_eq_true rfl, ?_⟩
      clear hK
      repeat' (first | (refine Wk.op ?_; intro K' hK') | (refine Wk.xqOp ?_; intro K' hK') | (refine Wk.rgOne ?_; intro K' hK') | (refine Wk.rgPure ?_; intro K' hK') | (refine Wk.rgX ?_; intro K' hK') | (refine Wk.xqNew ?_; intro K' hK') | (refine Wk.xqEnd ?_) | (refine Wk.rgDone ?_) | (refine Wk.rgTwo ?_ ?_ <;> intro K' hK') | (refine hK' _ _ ?_; clear hK' K') | (refine hK' _ ?_; clear hK' K') | (refine hKT _ ?_; clear hKT hKF KT KF) | (refine hKF _ ?_; clear hKT hKF KT KF) | (refine Wk.cond ?_; intro KT KF hKT hKF) | (refine Wk.ret ?_) | (refine Wk.draw ?_ ?_ ?_; rotate_left 2; (intro K' hK')) | (refine Wk.step rfl ?_) | (refine Wk.inv (X := X_cell_divisor) (t := .b 0 :: _) (ι := Int × Int) (fun ⟨x, y⟩ => gcdI x y = gcdI a b ∧ x.natAbs ≤ 1000000001 ∧ y.natAbs ≤ 1000000001) [] (fun ⟨x, y⟩ => [(0, .int .i64 x), (1, .int .i64 y)]) (fun ⟨x, y⟩ => []) (fun ⟨x, y⟩ => x.natAbs) ?_; intro K' hK'; ((refine hK' _ ⟨⟨a, b⟩, ?_, ?_, ?_⟩ ?_) <;> clear hK' K'); rotate_left 3; (intro i hi; obtain ⟨x, y⟩ := i; have hI : gcdI x y = gcdI a b ∧ x.natAbs ≤ 1000000001 ∧ y.natAbs ≤ 1000000001 := hi; clear hi)) | (refine Wk.k (X := X_cell_divisor) (t := .b 0 :: _) ⟨⟨y.tmod x, x⟩, ?_, ?_, ?_, ?_⟩) | (refine Wk.done ?_) | (refine Fin.plain trivial ?_) | ((with_reducible refine top_goal ?_); kernel_rfl) | ((with_reducible refine allB_goal ?_); kernel_rfl) | ((with_reducible refine mine_goal ?_); exact mine_of rfl) | ((with_reducible refine withV_goal ?_); refine withV_mk rfl ?_) | ((with_reducible refine hsel_goal ?_); (first | (exact hsel.nil) | (refine hsel.take (HB.like.refl _) (.inr fun _ h => h) ?_) | (refine hsel.take (like_cts ?_) (.inl rfl) ?_) | (refine hsel.skip (spare_own rfl rfl) ?_) | (refine hsel.skip spare_ro ?_))) | (refine And.intro ?_ ?_) | (intro hq; (try simp only [BF.H, Cel.eta, Rul.eta, Grd.eta, if_true, if_false] at hq); (try (exfalso; first | omega | (simp [BF.b] at hq; done)))))
      all_goals (try simp only [Cel.eta, Rul.eta, Grd.eta, if_true, if_false])
      all_goals (first | (with_reducible rfl) | (with_reducible exact trivial) | (with_reducible exact splitN_zero) | ((with_reducible refine fsub_goal ?_); exact trivial) | (with_reducible assumption) | ((with_reducible refine ble_goal ?_); rfl) | omega | skip)
      all_goals (first | exact ⟨rfl, by omega, by omega⟩ | (rw [gcdI_left]; exact hI.1) | (rw [gcdI_right]; exact hI.1) | (have h9 := tmod_lt y (show x ≠ 0 by assumption); omega) | (have h9 := tmod_lt x (show y ≠ 0 by assumption); omega) | exact int_eq (by rw [← hI.1, show x = 0 by omega, gcdI_zero]; omega) | exact int_eq (by rw [← hI.1, show y = 0 by omega, gcdI_zero']))
    · exact hK.elim
def G24 : List (Nat × Ctr) := (91, c_cell_divisor) :: G23
theorem okG24 : GsOk Try.prog G24 := GsOk.cons k_cell_divisor okG23
def c_refA_divisor : Ctr := fun args _ K => match args with
  | [x0, x1] => i1 x0 fun a => i1 x1 fun b => (-1000000000 ≤ a ∧ a ≤ 1000000001 ∧ -1000000000 ≤ b ∧ b ≤ 1000000001 ∧ (0 < b ∨ 0 < a)) ∧ K (.int .i64 (gcdI a b))
  | _ => False
noncomputable def X_refA_divisor : Env Try.prog := ⟨Try.f92.ntmps, TT, G24, E0, Try.f92.results.toList, [(2, .x [0, 1, 2, 3, 4, 5] [] (.done))], TT_ok, okG24, okE0, mixed⟩
theorem k_refA_divisor : COk Try.prog 92 c_refA_divisor :=
  ctr_of_wk X_refA_divisor Try.func92 rfl (by kernel_rfl) rfl rfl fun args hp K hK => by
    unfold c_refA_divisor at hK
    split at hK
    · obtain ⟨a, hK1, e0⟩ := iff_i1 hK; clear hK; have hK := hK1; clear hK1
      obtain ⟨b, hK1, e1⟩ := iff_i1 hK; clear hK; have hK := hK1; clear hK1
      obtain ⟨hpre, hK⟩ := hK
      refine ⟨[.int .i64 a, .int .i64 b], [], _, denL_cons (e0.symm) (denL_cons (e1.symm) (rfl)), trivial, fun _ _ b hb => (by cases hb), hK, Nat.le_of_ble_eq_true rfl, ?_⟩
      clear hK
      repeat' (first | (refine Wk.op ?_; intro K' hK') | (refine Wk.xqOp ?_; intro K' hK') | (refine Wk.rgOne ?_; intro K' hK') | (refine Wk.rgPure ?_; intro K' hK') | (refine Wk.rgX ?_; intro K' hK') | (refine Wk.xqNew ?_; intro K' hK') | (refine Wk.xqEnd ?_) | (refine Wk.rgDone ?_) | (refine Wk.rgTwo ?_ ?_ <;> intro K' hK') | (refine hK' _ _ ?_; clear hK' K') | (refine hK' _ ?_; clear hK' K') | (refine hKT _ ?_; clear hKT hKF KT KF) | (refine hKF _ ?_; clear hKT hKF KT KF) | (refine Wk.cond ?_; intro KT KF hKT hKF) | (refine Wk.ret ?_) | (refine Wk.draw ?_ ?_ ?_; rotate_left 2; (intro K' hK')) | (refine Wk.step rfl ?_) | (refine Wk.inv (X := X_refA_divisor) (t := .b 0 :: _) (ι := Int × Int) (fun ⟨x, y⟩ => gcdI x y = gcdI a b ∧ x.natAbs ≤ 1000000001 ∧ y.natAbs ≤ 1000000001) [] (fun ⟨x, y⟩ => [(0, .int .i64 x), (1, .int .i64 y)]) (fun ⟨x, y⟩ => []) (fun ⟨x, y⟩ => y.natAbs) ?_; intro K' hK'; ((refine hK' _ ⟨⟨a, b⟩, ?_, ?_, ?_⟩ ?_) <;> clear hK' K'); rotate_left 3; (intro i hi; obtain ⟨x, y⟩ := i; have hI : gcdI x y = gcdI a b ∧ x.natAbs ≤ 1000000001 ∧ y.natAbs ≤ 1000000001 := hi; clear hi)) | (refine Wk.k (X := X_refA_divisor) (t := .b 0 :: _) ⟨⟨y, x.tmod y⟩, ?_, ?_, ?_, ?_⟩) | (refine Wk.done ?_) | (refine Fin.plain trivial ?_) | ((with_reducible refine top_goal ?_); kernel_rfl) | ((with_reducible refine allB_goal ?_); kernel_rfl) | ((with_reducible refine mine_goal ?_); exact mine_of rfl) | ((with_reducible refine withV_goal ?_); refine withV_mk rfl ?_) | ((with_reducible refine hsel_goal ?_); (first | (exact hsel.nil) | (refine hsel.take (HB.like.refl _) (.inr fun _ h => h) ?_) | (refine hsel.take (like_cts ?_) (.inl rfl) ?_) | (refine hsel.skip (spare_own rfl rfl) ?_) | (refine hsel.skip spare_ro ?_))) | (refine And.intro ?_ ?_) | (intro hq; (try simp only [BF.H, Cel.eta, Rul.eta, Grd.eta, if_true, if_false] at hq); (try (exfalso; first | omega | (simp [BF.b] at hq; done)))))
      all_goals (try simp only [Cel.eta, Rul.eta, Grd.eta, if_true, if_false])
      all_goals (first | (with_reducible rfl) | (with_reducible exact trivial) | (with_reducible exact splitN_zero) | ((with_reducible refine fsub_goal ?_); exact trivial) | (with_reducible assumption) | ((with_reducible refine ble_goal ?_); rfl) | omega | skip)
      all_goals (first | exact ⟨rfl, by omega, by omega⟩ | (rw [gcdI_left]; exact hI.1) | (rw [gcdI_right]; exact hI.1) | (have h9 := tmod_lt y (show x ≠ 0 by assumption); omega) | (have h9 := tmod_lt x (show y ≠ 0 by assumption); omega) | exact int_eq (by rw [← hI.1, show x = 0 by omega, gcdI_zero]; omega) | exact int_eq (by rw [← hI.1, show y = 0 by omega, gcdI_zero']))
    · exact hK.elim
def G25 : List (Nat × Ctr) := (92, c_refA_divisor) :: G24
theorem okG25 : GsOk Try.prog G25 := GsOk.cons k_refA_divisor okG24
def c_cell_Order : Ctr := fun args _ K => match args with
  | [x0, x1] => c1 x0 fun c => r1 x1 fun r => K (.tup [.int .i64 (c.order r).1, .int .i64 (c.order r).2])
  | _ => False
noncomputable def X_cell_Order : Env Try.prog := ⟨Try.f40.ntmps, TT, G25, E0, Try.f40.results.toList, [(6, .x [0, 1, 2, 3, 4, 5] [] (.done))], TT_ok, okG25, okE0, mixed⟩
theorem k_cell_Order : COk Try.prog 40 c_cell_Order :=
  ctr_of_wk X_cell_Order Try.func40 rfl (by kernel_rfl) rfl rfl fun args hp K hK => by
    unfold c_cell_Order at hK
    split at hK
    · obtain ⟨c, hK1, e0⟩ := iff_c1 hK; clear hK; have hK := hK1; clear hK1
      obtain ⟨r, hK1, e1⟩ := iff_r1 hK; clear hK; have hK := hK1; clear hK1
      refine ⟨[Cel.sv c, Rul.sv r], [], _, denL_cons (e0.symm) (denL_cons (e1.symm) (rfl)), trivial, fun _ _ b hb => (by cases hb), hK, Nat.le_of_ble_eq_true rfl, ?_⟩
      clear hK
      repeat' (first | (refine Wk.op ?_; intro K' hK') | (refine Wk.xqOp ?_; intro K' hK') | (refine Wk.rgOne ?_; intro K' hK') | (refine Wk.rgPure ?_; intro K' hK') | (refine Wk.rgX ?_; intro K' hK') | (refine Wk.xqNew ?_; intro K' hK') | (refine Wk.xqEnd ?_) | (refine Wk.rgDone ?_) | (refine Wk.rgTwo ?_ ?_ <;> intro K' hK') | (refine hK' _ _ ?_; clear hK' K') | (refine hK' _ ?_; clear hK' K') | (refine hKT _ ?_; clear hKT hKF KT KF) | (refine hKF _ ?_; clear hKT hKF KT KF) | (refine Wk.cond ?_; intro KT KF hKT hKF) | (refine Wk.ret ?_) | (refine Wk.draw ?_ ?_ ?_; rotate_left 2; (intro K' hK')) | (refine Wk.step rfl ?_) | (refine Wk.done ?_) | (refine Fin.plain trivial ?_) | ((with_reducible refine top_goal ?_); kernel_rfl) | ((with_reducible refine allB_goal ?_); kernel_rfl) | ((with_reducible refine mine_goal ?_); exact mine_of rfl) | ((with_reducible refine withV_goal ?_); refine withV_mk rfl ?_) | ((with_reducible refine hsel_goal ?_); (first | (exact hsel.nil) | (refine hsel.take (HB.like.refl _) (.inr fun _ h => h) ?_) | (refine hsel.take (like_cts ?_) (.inl rfl) ?_) | (refine hsel.skip (spare_own rfl rfl) ?_) | (refine hsel.skip spare_ro ?_))) | (refine And.intro ?_ ?_) | (intro hq; (try simp only [BF.H, Cel.eta, Rul.eta, Grd.eta, if_true, if_false] at hq); (try simp only [Cel.cls] at hq); (try (exfalso; first | omega | (simp [BF.b] at hq; done)))))
      all_goals (try simp only [Cel.eta, Rul.eta, Grd.eta, if_true, if_false])
      all_goals (first | (with_reducible rfl) | (with_reducible exact trivial) | (with_reducible exact splitN_zero) | ((with_reducible refine fsub_goal ?_); exact trivial) | (with_reducible assumption) | ((with_reducible refine ble_goal ?_); rfl) | omega | skip)
      all_goals (try simp only [Cel.cls] at *)
      all_goals (first | (simp [Cel.eta, Rul.eta, Grd.eta, den, denL, den_ofConst, BF.b, bfOf, Cel.sv, Rul.sv, Cel.order, Cel.size, Cel.cls, Cel.eq_iff, *]; done) | exact ⟨by assumption, by assumption⟩ | assumption | (have h9 := Cel.facts (c := c) (by assumption); have h8 := Rul.ok_iff.1 (show r.ok = true by assumption); obtain ⟨o1, o2, o3, o4⟩ := order_tdiv r (show c.ok = true by assumption); first | omega | (simp only [Cel.cls]; omega) | (simp [Cel.eta, Rul.eta, Grd.eta, den, denL, den_ofConst, BF.b, bfOf, Cel.sv, Rul.sv, Cel.order, Cel.size, Cel.cls, Cel.eq_iff, *]; done) | (simp [Cel.eta, Rul.eta, Grd.eta, den, denL, den_ofConst, BF.b, bfOf, Cel.sv, Rul.sv, Cel.order, Cel.size, Cel.cls, *]; omega)) | (simp [Cel.eta, Rul.eta, Grd.eta, den, denL, den_ofConst, BF.b, bfOf, Cel.sv, Rul.sv, Cel.order, Cel.size, Cel.cls, *]; done) | (have hne : c.after r ≠ c := (fun e => by rw [e] at hq; simp at hq); simp [Cel.eta, Rul.eta, Grd.eta, den, denL, den_ofConst, BF.b, bfOf, Cel.sv, Rul.sv, Cel.order, Cel.size, Cel.cls, hne, *]; done))
    · exact hK.elim
def G26 : List (Nat × Ctr) := (40, c_cell_Order) :: G25
theorem okG26 : GsOk Try.prog G26 := GsOk.cons k_cell_Order okG25
def c_refA_Order : Ctr := fun args _ K => match args with
  | [x0, x1] => c1 x0 fun c => r1 x1 fun r => K (.tup [.int .i64 (c.order r).1, .int .i64 (c.order r).2])
  | _ => False
noncomputable def X_refA_Order : Env Try.prog := ⟨Try.f41.ntmps, TT, G26, E0, Try.f41.results.toList, [(6, .x [0, 1, 2, 3, 4, 5] [] (.done))], TT_ok, okG26, okE0, mixed⟩
theorem k_refA_Order : COk Try.prog 41 c_refA_Order :=
  ctr_of_wk X_refA_Order Try.func41 rfl (by kernel_rfl) rfl rfl fun args hp K hK => by
    unfold c_refA_Order at hK
    split at hK
    · obtain ⟨c, hK1, e0⟩ := iff_c1 hK; clear hK; have hK := hK1; clear hK1
      obtain ⟨r, hK1, e1⟩ := iff_r1 hK; clear hK; have hK := hK1; clear hK1
      refine ⟨[Cel.sv c, Rul.sv r], [], _, denL_cons (e0.symm) (denL_cons (e1.symm) (rfl)), trivial, fun _ _ b hb => (by cases hb), hK, Nat.le_of_ble_eq_true rfl, ?_⟩
      clear hK
      repeat' (first | (refine Wk.op ?_; intro K' hK') | (refine Wk.xqOp ?_; intro K' hK') | (refine Wk.rgOne ?_; intro K' hK') | (refine Wk.rgPure ?_; intro K' hK') | (refine Wk.rgX ?_; intro K' hK') | (refine Wk.xqNew ?_; intro K' hK') | (refine Wk.xqEnd ?_) | (refine Wk.rgDone ?_) | (refine Wk.rgTwo ?_ ?_ <;> intro K' hK') | (refine hK' _ _ ?_; clear hK' K') | (refine hK' _ ?_; clear hK' K') | (refine hKT _ ?_; clear hKT hKF KT KF) | (refine hKF _ ?_; clear hKT hKF KT KF) | (refine Wk.cond ?_; intro KT KF hKT hKF) | (refine Wk.ret ?_) | (refine Wk.draw ?_ ?_ ?_; rotate_left 2; (intro K' hK')) | (refine Wk.step rfl ?_) | (refine Wk.done ?_) | (refine Fin.plain trivial ?_) | ((with_reducible refine top_goal ?_); kernel_rfl) | ((with_reducible refine allB_goal ?_); kernel_rfl) | ((with_reducible refine mine_goal ?_); exact mine_of rfl) | ((with_reducible refine withV_goal ?_); refine withV_mk rfl ?_) | ((with_reducible refine hsel_goal ?_); (first | (exact hsel.nil) | (refine hsel.take (HB.like.refl _) (.inr fun _ h => h) ?_) | (refine hsel.take (like_cts ?_) (.inl rfl) ?_) | (refine hsel.skip (spare_own rfl rfl) ?_) | (refine hsel.skip spare_ro ?_))) | (refine And.intro ?_ ?_) | (intro hq; (try simp only [BF.H, Cel.eta, Rul.eta, Grd.eta, if_true, if_false] at hq); (try simp only [Cel.cls] at hq); (try (exfalso; first | omega | (simp [BF.b] at hq; done)))))
      all_goals (try simp only [Cel.eta, Rul.eta, Grd.eta, if_true, if_false])
      all_goals (first | (with_reducible rfl) | (with_reducible exact trivial) | (with_reducible exact splitN_zero) | ((with_reducible refine fsub_goal ?_); exact trivial) | (with_reducible assumption) | ((with_reducible refine ble_goal ?_); rfl) | omega | skip)
      all_goals (try simp only [Cel.cls] at *)
      all_goals (first | (simp [Cel.eta, Rul.eta, Grd.eta, den, denL, den_ofConst, BF.b, bfOf, Cel.sv, Rul.sv, Cel.order, Cel.size, Cel.cls, Cel.eq_iff, *]; done) | exact ⟨by assumption, by assumption⟩ | assumption | (have h9 := Cel.facts (c := c) (by assumption); have h8 := Rul.ok_iff.1 (show r.ok = true by assumption); obtain ⟨o1, o2, o3, o4⟩ := order_tdiv r (show c.ok = true by assumption); first | omega | (simp only [Cel.cls]; omega) | (simp [Cel.eta, Rul.eta, Grd.eta, den, denL, den_ofConst, BF.b, bfOf, Cel.sv, Rul.sv, Cel.order, Cel.size, Cel.cls, Cel.eq_iff, *]; done) | (simp [Cel.eta, Rul.eta, Grd.eta, den, denL, den_ofConst, BF.b, bfOf, Cel.sv, Rul.sv, Cel.order, Cel.size, Cel.cls, *]; omega)) | (simp [Cel.eta, Rul.eta, Grd.eta, den, denL, den_ofConst, BF.b, bfOf, Cel.sv, Rul.sv, Cel.order, Cel.size, Cel.cls, *]; done) | (have hne : c.after r ≠ c := (fun e => by rw [e] at hq; simp at hq); simp [Cel.eta, Rul.eta, Grd.eta, den, denL, den_ofConst, BF.b, bfOf, Cel.sv, Rul.sv, Cel.order, Cel.size, Cel.cls, hne, *]; done))
    · exact hK.elim
def G27 : List (Nat × Ctr) := (41, c_refA_Order) :: G26
theorem okG27 : GsOk Try.prog G27 := GsOk.cons k_refA_Order okG26
def c_lawA_CellOrders : Ctr := fun args _ K => match args with
  | [x0, x1] => c1 x0 fun c => r1 x1 fun r => K (.bool .tt)
  | _ => False
noncomputable def X_lawA_CellOrders : Env Try.prog := ⟨Try.f7.ntmps, TT, G27, E0, Try.f7.results.toList, [], TT_ok, okG27, okE0, mixed⟩
theorem k_lawA_CellOrders : COk Try.prog 7 c_lawA_CellOrders :=
  ctr_of_wk X_lawA_CellOrders Try.func7 rfl (by kernel_rfl) rfl rfl fun args hp K hK => by
    unfold c_lawA_CellOrders at hK
    split at hK
    · obtain ⟨c, hK1, e0⟩ := iff_c1 hK; clear hK; have hK := hK1; clear hK1
      obtain ⟨r, hK1, e1⟩ := iff_r1 hK; clear hK; have hK := hK1; clear hK1
      have ho := Cel.order_nn c r
      refine ⟨[Cel.sv c, Rul.sv r], [], _, denL_cons (e0.symm) (denL_cons (e1.symm) (rfl)), trivial, fun _ _ b hb => (by cases hb), hK, Nat.le_of_ble_eq_true rfl, ?_⟩
      clear hK
      repeat' (first | (refine Wk.op ?_; intro K' hK') | (refine Wk.xqOp ?_; intro K' hK') | (refine Wk.rgOne ?_; intro K' hK') | (refine Wk.rgPure ?_; intro K' hK') | (refine Wk.rgX ?_; intro K' hK') | (refine Wk.xqNew ?_; intro K' hK') | (refine Wk.xqEnd ?_) | (refine Wk.rgDone ?_) | (refine Wk.rgTwo ?_ ?_ <;> intro K' hK') | (refine hK' _ _ ?_; clear hK' K') | (refine hK' _ ?_; clear hK' K') | (refine hKT _ ?_; clear hKT hKF KT KF) | (refine hKF _ ?_; clear hKT hKF KT KF) | (refine Wk.cond ?_; intro KT KF hKT hKF) | (refine Wk.ret ?_) | (refine Wk.draw ?_ ?_ ?_; rotate_left 2; (intro K' hK')) | (refine Wk.step rfl ?_) | (refine Wk.inv (X := X_lawA_CellOrders) (t := .b 0 :: _) (ι := Nat) (fun k => (k : Int) ≤ (c.order r).1) [2, 3, 5, 9] (fun k => [(10, .int .i64 ((k : Int) + 1))]) (fun k => [(2, fun b => ⟨b.nm, b.own, b.kd, .l [.int .i64 (c.afters r k).e, .int .i64 (c.afters r k).n, .int .i64 (c.afters r k).w, .int .i64 (c.afters r k).s]⟩)]) (fun k => ((c.order r).1 + 1 - k).toNat) ?_; intro K' hK'; ((refine hK' _ ⟨0, ?_, ?_, ?_⟩ ?_) <;> clear hK' K'); rotate_left 3; (intro k hi; have hI : (k : Int) ≤ (c.order r).1 := hi; clear hi; obtain ⟨hc, hr⟩ := Cel.order_ok (c := c) (r := r) (by omega); have hk := Cel.afters_ok hc hr k; have hcol : Cel.collide (c.afters r k) r = (c.afters r (k + 1), 0) := (by simp [Cel.collide, hk, hr, Cel.afters]); have hlaw := Cel.order_law hc hr (k + 1) (by omega))) | (refine Wk.k (X := X_lawA_CellOrders) (t := .b 0 :: _) ⟨k + 1, ?_, ?_, ?_, ?_⟩) | (refine Wk.done ?_) | (refine Fin.plain trivial ?_) | ((with_reducible refine top_goal ?_); kernel_rfl) | ((with_reducible refine allB_goal ?_); kernel_rfl) | ((with_reducible refine mine_goal ?_); exact mine_of rfl) | ((with_reducible refine withV_goal ?_); refine withV_mk rfl ?_) | ((with_reducible refine hsel_goal ?_); (first | (exact hsel.nil) | (refine hsel.take (HB.like.refl _) (.inr fun _ h => h) ?_) | (refine hsel.take (like_cts ?_) (.inl rfl) ?_) | (refine hsel.skip (spare_own rfl rfl) ?_) | (refine hsel.skip spare_ro ?_))) | (refine And.intro ?_ ?_) | (intro hq; (try simp only [BF.H, Cel.eta, Rul.eta, Grd.eta, if_true, if_false] at hq); (try simp only [Cel.eta, hcol] at hq); (try (exfalso; first | omega | (simp [BF.b] at hq; done)))))
      all_goals (try simp only [Cel.eta, Rul.eta, Grd.eta, if_true, if_false])
      all_goals (first | (with_reducible rfl) | (with_reducible exact trivial) | (with_reducible exact splitN_zero) | ((with_reducible refine fsub_goal ?_); exact trivial) | (with_reducible assumption) | ((with_reducible refine ble_goal ?_); rfl) | omega | skip)
      all_goals (first | rfl | exact int_eq (by omega) | exact cst_eq (by omega) | (rw [hcol]; done) | (rw [hcol]) | (exfalso; have h := hlaw (by omega); rw [Cel.eq_iff] at h; by_cases he : (k : Int) + 1 = (c.order r).1; (have h2 := h.2 (by omega); simp [BF.b, h2, he] at hq); (have h2 := fun x => he (by have := h.1 x; omega); simp [BF.b, he] at hq; exact h2 hq)))
    · exact hK.elim
def G28 : List (Nat × Ctr) := (7, c_lawA_CellOrders) :: G27
theorem okG28 : GsOk Try.prog G28 := GsOk.cons k_lawA_CellOrders okG27
end Go.Proofs.Ytcagdjbinkadpaa

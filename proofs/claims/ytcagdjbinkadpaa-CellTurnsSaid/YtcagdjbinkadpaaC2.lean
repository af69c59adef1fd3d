/- Contracts: what the functions hand back. -/
import Derived.Test.YtcagdjbinkadpaaC1
import Derived.Test.YtcagdjbinkadpaaSpKept
import Derived.WalkSpells
import Derived.RegionTactic
import Derived.BigRegion
set_option linter.unusedSimpArgs false
set_option linter.unusedVariables false
namespace Go.Proofs.Ytcagdjbinkadpaa
open Go.Sx Go.RowKit

def c_cell_Mass : Ctr := fun args _ K => match args with
  | [x0] => c1 x0 fun c => K (.tup [.int .i64 c.mass.1, .int .i64 c.mass.2])
  | _ => False
noncomputable def X_cell_Mass : Env Try.prog := ⟨Try.f30.ntmps, TT, G31, [], Try.f30.results.toList, TT_ok, okG31, EsOk.nil _, mixed⟩
theorem k_cell_Mass : COk Try.prog 30 c_cell_Mass :=
  ctr_of_wk X_cell_Mass Try.func30 rfl (by kernel_rfl) rfl rfl fun args hp K hK => by
    unfold c_cell_Mass at hK
    split at hK
    · obtain ⟨c, hK, e0⟩ := iff_c1 hK
      refine ⟨[Cel.sv c], [], _, by simp only [denL]; rw [e0] <;> rfl, trivial, fun _ _ b hb => (by cases hb), hK, Nat.le_of_ble_eq_true rfl, ?_⟩
      clear hK
      clear e0
      repeat' (first | (refine Wk.op ?_; intro K' hK') | (refine Wk.qop ?_; intro K' hK') | (refine hK' _ _ ?_; clear hK' K') | (refine hK' _ ?_; clear hK' K') | (refine hKT _ ?_; clear hKT hKF KT KF) | (refine hKF _ ?_; clear hKT hKF KT KF) | (refine Wk.cond ?_; intro KT KF hKT hKF) | (refine Wk.ret ?_) | (refine Wk.qnil ?_) | (refine Wk.draw ?_; intro K' hK') | (refine Wk.step rfl ?_) | (refine Wk.done ?_) | (with_reducible refine lexB_goal ?_; kernel_rfl) | (with_reducible refine lexT_goal ?_; kernel_rfl) | (refine And.intro ?_ ?_) | (intro hq; (try simp only [BF.H, Cel.eta, Rul.eta] at hq); (try (exfalso; first | omega | (simp [BF.b] at hq; done)))))
      all_goals (try simp only [Cel.eta, Rul.eta])
      all_goals (first | (with_reducible rfl) | exact trivial | assumption | exact Nat.le_of_ble_eq_true rfl | omega | skip)
      all_goals (first | (have h9 := Cel.facts (by assumption); (first | omega | (simp [Cel.eta, Rul.eta, den, denL, den_ofConst, BF.b, bfOf, Cel.sv, Rul.sv, Cel.mass, Cel.sum, Cel.cls, *]; done) | (simp [Cel.eta, Rul.eta, den, denL, den_ofConst, BF.b, bfOf, Cel.sv, Rul.sv, Cel.mass, Cel.sum, Cel.cls, *]; omega))) | (simp [Cel.eta, Rul.eta, den, denL, den_ofConst, BF.b, bfOf, Cel.sv, Rul.sv, Cel.mass, Cel.sum, Cel.cls]; done) | (simp [Cel.eta, Rul.eta, den, denL, den_ofConst, BF.b, bfOf, Cel.sv, Rul.sv, Cel.mass, Cel.sum, Cel.cls]; omega) | (simp [Cel.eta, Rul.eta, den, denL, den_ofConst, BF.b, bfOf, Cel.sv, Rul.sv, Cel.mass, Cel.sum, Cel.cls]; (repeat' split) <;> omega) | (simp [Cel.eta, Rul.eta, den, denL, den_ofConst, BF.b, bfOf, Cel.sv, Rul.sv, Cel.mass, Cel.sum, Cel.cls]; rw [Bool.eq_iff_iff]; (repeat' split) <;> simp <;> omega) | (simp [Cel.eta, Rul.eta, den, denL, den_ofConst, BF.b, bfOf, Cel.sv, Rul.sv, Cel.mass, Cel.sum, Cel.cls, *]; done) | (simp [Cel.eta, Rul.eta, den, denL, den_ofConst, BF.b, bfOf, Cel.sv, Rul.sv, Cel.mass, Cel.sum, Cel.cls, *]; omega))
    · exact hK.elim
def G32 : List (Nat × Ctr) := (30, c_cell_Mass) :: G31
theorem okG32 : GsOk Try.prog G32 := GsOk.cons k_cell_Mass okG31
def c_cell_Momentum : Ctr := fun args _ K => match args with
  | [x0] => c1 x0 fun c => K (.tup [.int .i64 c.mom.1, .int .i64 c.mom.2.1, .int .i64 c.mom.2.2])
  | _ => False
noncomputable def X_cell_Momentum : Env Try.prog := ⟨Try.f36.ntmps, TT, G32, [], Try.f36.results.toList, TT_ok, okG32, EsOk.nil _, mixed⟩
theorem k_cell_Momentum : COk Try.prog 36 c_cell_Momentum :=
  ctr_of_wk X_cell_Momentum Try.func36 rfl (by kernel_rfl) rfl rfl fun args hp K hK => by
    unfold c_cell_Momentum at hK
    split at hK
    · obtain ⟨c, hK, e0⟩ := iff_c1 hK
      refine ⟨[Cel.sv c], [], _, by simp only [denL]; rw [e0] <;> rfl, trivial, fun _ _ b hb => (by cases hb), hK, Nat.le_of_ble_eq_true rfl, ?_⟩
      clear hK
      clear e0
      repeat' (first | (refine Wk.op ?_; intro K' hK') | (refine Wk.qop ?_; intro K' hK') | (refine hK' _ _ ?_; clear hK' K') | (refine hK' _ ?_; clear hK' K') | (refine hKT _ ?_; clear hKT hKF KT KF) | (refine hKF _ ?_; clear hKT hKF KT KF) | (refine Wk.cond ?_; intro KT KF hKT hKF) | (refine Wk.ret ?_) | (refine Wk.qnil ?_) | (refine Wk.draw ?_; intro K' hK') | (refine Wk.step rfl ?_) | (refine Wk.done ?_) | (with_reducible refine lexB_goal ?_; kernel_rfl) | (with_reducible refine lexT_goal ?_; kernel_rfl) | (refine And.intro ?_ ?_) | (intro hq; (try simp only [BF.H, Cel.eta, Rul.eta] at hq); (try (exfalso; first | omega | (simp [BF.b] at hq; done)))))
      all_goals (try simp only [Cel.eta, Rul.eta])
      all_goals (first | (with_reducible rfl) | exact trivial | assumption | exact Nat.le_of_ble_eq_true rfl | omega | skip)
      all_goals (first | (have h9 := Cel.facts (by assumption); (first | omega | (simp [Cel.eta, Rul.eta, den, denL, den_ofConst, BF.b, bfOf, Cel.sv, Rul.sv, Cel.mom, Cel.cls, *]; done) | (simp [Cel.eta, Rul.eta, den, denL, den_ofConst, BF.b, bfOf, Cel.sv, Rul.sv, Cel.mom, Cel.cls, *]; omega))) | (simp [Cel.eta, Rul.eta, den, denL, den_ofConst, BF.b, bfOf, Cel.sv, Rul.sv, Cel.mom, Cel.cls]; done) | (simp [Cel.eta, Rul.eta, den, denL, den_ofConst, BF.b, bfOf, Cel.sv, Rul.sv, Cel.mom, Cel.cls]; omega) | (simp [Cel.eta, Rul.eta, den, denL, den_ofConst, BF.b, bfOf, Cel.sv, Rul.sv, Cel.mom, Cel.cls]; (repeat' split) <;> omega) | (simp [Cel.eta, Rul.eta, den, denL, den_ofConst, BF.b, bfOf, Cel.sv, Rul.sv, Cel.mom, Cel.cls]; rw [Bool.eq_iff_iff]; (repeat' split) <;> simp <;> omega) | (simp [Cel.eta, Rul.eta, den, denL, den_ofConst, BF.b, bfOf, Cel.sv, Rul.sv, Cel.mom, Cel.cls, *]; done) | (simp [Cel.eta, Rul.eta, den, denL, den_ofConst, BF.b, bfOf, Cel.sv, Rul.sv, Cel.mom, Cel.cls, *]; omega))
    · exact hK.elim
def G33 : List (Nat × Ctr) := (36, c_cell_Momentum) :: G32
theorem okG33 : GsOk Try.prog G33 := GsOk.cons k_cell_Momentum okG32
def c_cell_Pairs : Ctr := fun args _ K => match args with
  | [x0] => c1 x0 fun c => K (.tup [.int .i64 c.prs.1, .int .i64 c.prs.2.1, .int .i64 c.prs.2.2])
  | _ => False
noncomputable def X_cell_Pairs : Env Try.prog := ⟨Try.f38.ntmps, TT, G33, [], Try.f38.results.toList, TT_ok, okG33, EsOk.nil _, mixed⟩
theorem k_cell_Pairs : COk Try.prog 38 c_cell_Pairs :=
  ctr_of_wk X_cell_Pairs Try.func38 rfl (by kernel_rfl) rfl rfl fun args hp K hK => by
    unfold c_cell_Pairs at hK
    split at hK
    · obtain ⟨c, hK, e0⟩ := iff_c1 hK
      refine ⟨[Cel.sv c], [], _, by simp only [denL]; rw [e0] <;> rfl, trivial, fun _ _ b hb => (by cases hb), hK, Nat.le_of_ble_eq_true rfl, ?_⟩
      clear hK
      clear e0
      repeat' (first | (refine Wk.op ?_; intro K' hK') | (refine Wk.qop ?_; intro K' hK') | (refine hK' _ _ ?_; clear hK' K') | (refine hK' _ ?_; clear hK' K') | (refine hKT _ ?_; clear hKT hKF KT KF) | (refine hKF _ ?_; clear hKT hKF KT KF) | (refine Wk.cond ?_; intro KT KF hKT hKF) | (refine Wk.ret ?_) | (refine Wk.qnil ?_) | (refine Wk.draw ?_; intro K' hK') | (refine Wk.step rfl ?_) | (refine Wk.done ?_) | (with_reducible refine lexB_goal ?_; kernel_rfl) | (with_reducible refine lexT_goal ?_; kernel_rfl) | (refine And.intro ?_ ?_) | (intro hq; (try simp only [BF.H, Cel.eta, Rul.eta] at hq); (try (exfalso; first | omega | (simp [BF.b] at hq; done)))))
      all_goals (try simp only [Cel.eta, Rul.eta])
      all_goals (first | (with_reducible rfl) | exact trivial | assumption | exact Nat.le_of_ble_eq_true rfl | omega | skip)
      all_goals (first | (have h9 := Cel.facts (by assumption); (first | omega | (simp [Cel.eta, Rul.eta, den, denL, den_ofConst, BF.b, bfOf, Cel.sv, Rul.sv, Cel.prs, Cel.h, Cel.v, *]; done) | (simp [Cel.eta, Rul.eta, den, denL, den_ofConst, BF.b, bfOf, Cel.sv, Rul.sv, Cel.prs, Cel.h, Cel.v, *]; omega))) | (simp [Cel.eta, Rul.eta, den, denL, den_ofConst, BF.b, bfOf, Cel.sv, Rul.sv, Cel.prs, Cel.h, Cel.v]; done) | (simp [Cel.eta, Rul.eta, den, denL, den_ofConst, BF.b, bfOf, Cel.sv, Rul.sv, Cel.prs, Cel.h, Cel.v]; omega) | (simp [Cel.eta, Rul.eta, den, denL, den_ofConst, BF.b, bfOf, Cel.sv, Rul.sv, Cel.prs, Cel.h, Cel.v]; (repeat' split) <;> omega) | (simp [Cel.eta, Rul.eta, den, denL, den_ofConst, BF.b, bfOf, Cel.sv, Rul.sv, Cel.prs, Cel.h, Cel.v]; rw [Bool.eq_iff_iff]; (repeat' split) <;> simp <;> omega) | (simp [Cel.eta, Rul.eta, den, denL, den_ofConst, BF.b, bfOf, Cel.sv, Rul.sv, Cel.prs, Cel.h, Cel.v, *]; done) | (simp [Cel.eta, Rul.eta, den, denL, den_ofConst, BF.b, bfOf, Cel.sv, Rul.sv, Cel.prs, Cel.h, Cel.v, *]; omega))
    · exact hK.elim
def G34 : List (Nat × Ctr) := (38, c_cell_Pairs) :: G33
theorem okG34 : GsOk Try.prog G34 := GsOk.cons k_cell_Pairs okG33
def c_refA_Mass : Ctr := fun args _ K => match args with
  | [x0] => c1 x0 fun c => K (.tup [.int .i64 c.mass.1, .int .i64 c.mass.2])
  | _ => False
noncomputable def X_refA_Mass : Env Try.prog := ⟨Try.f31.ntmps, TT, G34, [], Try.f31.results.toList, TT_ok, okG34, EsOk.nil _, mixed⟩
theorem k_refA_Mass : COk Try.prog 31 c_refA_Mass :=
  ctr_of_wk X_refA_Mass Try.func31 rfl (by kernel_rfl) rfl rfl fun args hp K hK => by
    unfold c_refA_Mass at hK
    split at hK
    · obtain ⟨c, hK, e0⟩ := iff_c1 hK
      refine ⟨[Cel.sv c], [], _, by simp only [denL]; rw [e0] <;> rfl, trivial, fun _ _ b hb => (by cases hb), hK, Nat.le_of_ble_eq_true rfl, ?_⟩
      clear hK
      clear e0
      repeat' (first | (refine Wk.op ?_; intro K' hK') | (refine Wk.qop ?_; intro K' hK') | (refine hK' _ _ ?_; clear hK' K') | (refine hK' _ ?_; clear hK' K') | (refine hKT _ ?_; clear hKT hKF KT KF) | (refine hKF _ ?_; clear hKT hKF KT KF) | (refine Wk.cond ?_; intro KT KF hKT hKF) | (refine Wk.ret ?_) | (refine Wk.qnil ?_) | (refine Wk.draw ?_; intro K' hK') | (refine Wk.step rfl ?_) | (refine Wk.done ?_) | (with_reducible refine lexB_goal ?_; kernel_rfl) | (with_reducible refine lexT_goal ?_; kernel_rfl) | (refine And.intro ?_ ?_) | (intro hq; (try simp only [BF.H, Cel.eta, Rul.eta] at hq); (try (exfalso; first | omega | (simp [BF.b] at hq; done)))))
      all_goals (try simp only [Cel.eta, Rul.eta])
      all_goals (first | (with_reducible rfl) | exact trivial | assumption | exact Nat.le_of_ble_eq_true rfl | omega | skip)
      all_goals (first | (have h9 := Cel.facts (by assumption); (first | omega | (simp [Cel.eta, Rul.eta, den, denL, den_ofConst, BF.b, bfOf, Cel.sv, Rul.sv, Cel.mass, Cel.sum, Cel.cls, *]; done) | (simp [Cel.eta, Rul.eta, den, denL, den_ofConst, BF.b, bfOf, Cel.sv, Rul.sv, Cel.mass, Cel.sum, Cel.cls, *]; omega))) | (simp [Cel.eta, Rul.eta, den, denL, den_ofConst, BF.b, bfOf, Cel.sv, Rul.sv, Cel.mass, Cel.sum, Cel.cls]; done) | (simp [Cel.eta, Rul.eta, den, denL, den_ofConst, BF.b, bfOf, Cel.sv, Rul.sv, Cel.mass, Cel.sum, Cel.cls]; omega) | (simp [Cel.eta, Rul.eta, den, denL, den_ofConst, BF.b, bfOf, Cel.sv, Rul.sv, Cel.mass, Cel.sum, Cel.cls]; (repeat' split) <;> omega) | (simp [Cel.eta, Rul.eta, den, denL, den_ofConst, BF.b, bfOf, Cel.sv, Rul.sv, Cel.mass, Cel.sum, Cel.cls]; rw [Bool.eq_iff_iff]; (repeat' split) <;> simp <;> omega) | (simp [Cel.eta, Rul.eta, den, denL, den_ofConst, BF.b, bfOf, Cel.sv, Rul.sv, Cel.mass, Cel.sum, Cel.cls, *]; done) | (simp [Cel.eta, Rul.eta, den, denL, den_ofConst, BF.b, bfOf, Cel.sv, Rul.sv, Cel.mass, Cel.sum, Cel.cls, *]; omega))
    · exact hK.elim
def G35 : List (Nat × Ctr) := (31, c_refA_Mass) :: G34
theorem okG35 : GsOk Try.prog G35 := GsOk.cons k_refA_Mass okG34
def c_refA_Momentum : Ctr := fun args _ K => match args with
  | [x0] => c1 x0 fun c => K (.tup [.int .i64 c.mom.1, .int .i64 c.mom.2.1, .int .i64 c.mom.2.2])
  | _ => False
noncomputable def X_refA_Momentum : Env Try.prog := ⟨Try.f37.ntmps, TT, G35, [], Try.f37.results.toList, TT_ok, okG35, EsOk.nil _, mixed⟩
theorem k_refA_Momentum : COk Try.prog 37 c_refA_Momentum :=
  ctr_of_wk X_refA_Momentum Try.func37 rfl (by kernel_rfl) rfl rfl fun args hp K hK => by
    unfold c_refA_Momentum at hK
    split at hK
    · obtain ⟨c, hK, e0⟩ := iff_c1 hK
      refine ⟨[Cel.sv c], [], _, by simp only [denL]; rw [e0] <;> rfl, trivial, fun _ _ b hb => (by cases hb), hK, Nat.le_of_ble_eq_true rfl, ?_⟩
      clear hK
      clear e0
      repeat' (first | (refine Wk.op ?_; intro K' hK') | (refine Wk.qop ?_; intro K' hK') | (refine hK' _ _ ?_; clear hK' K') | (refine hK' _ ?_; clear hK' K') | (refine hKT _ ?_; clear hKT hKF KT KF) | (refine hKF _ ?_; clear hKT hKF KT KF) | (refine Wk.cond ?_; intro KT KF hKT hKF) | (refine Wk.ret ?_) | (refine Wk.qnil ?_) | (refine Wk.draw ?_; intro K' hK') | (refine Wk.step rfl ?_) | (refine Wk.done ?_) | (with_reducible refine lexB_goal ?_; kernel_rfl) | (with_reducible refine lexT_goal ?_; kernel_rfl) | (refine And.intro ?_ ?_) | (intro hq; (try simp only [BF.H, Cel.eta, Rul.eta] at hq); (try (exfalso; first | omega | (simp [BF.b] at hq; done)))))
      all_goals (try simp only [Cel.eta, Rul.eta])
      all_goals (first | (with_reducible rfl) | exact trivial | assumption | exact Nat.le_of_ble_eq_true rfl | omega | skip)
      all_goals (first | (have h9 := Cel.facts (by assumption); (first | omega | (simp [Cel.eta, Rul.eta, den, denL, den_ofConst, BF.b, bfOf, Cel.sv, Rul.sv, Cel.mom, Cel.cls, *]; done) | (simp [Cel.eta, Rul.eta, den, denL, den_ofConst, BF.b, bfOf, Cel.sv, Rul.sv, Cel.mom, Cel.cls, *]; omega))) | (simp [Cel.eta, Rul.eta, den, denL, den_ofConst, BF.b, bfOf, Cel.sv, Rul.sv, Cel.mom, Cel.cls]; done) | (simp [Cel.eta, Rul.eta, den, denL, den_ofConst, BF.b, bfOf, Cel.sv, Rul.sv, Cel.mom, Cel.cls]; omega) | (simp [Cel.eta, Rul.eta, den, denL, den_ofConst, BF.b, bfOf, Cel.sv, Rul.sv, Cel.mom, Cel.cls]; (repeat' split) <;> omega) | (simp [Cel.eta, Rul.eta, den, denL, den_ofConst, BF.b, bfOf, Cel.sv, Rul.sv, Cel.mom, Cel.cls]; rw [Bool.eq_iff_iff]; (repeat' split) <;> simp <;> omega) | (simp [Cel.eta, Rul.eta, den, denL, den_ofConst, BF.b, bfOf, Cel.sv, Rul.sv, Cel.mom, Cel.cls, *]; done) | (simp [Cel.eta, Rul.eta, den, denL, den_ofConst, BF.b, bfOf, Cel.sv, Rul.sv, Cel.mom, Cel.cls, *]; omega))
    · exact hK.elim
def G36 : List (Nat × Ctr) := (37, c_refA_Momentum) :: G35
theorem okG36 : GsOk Try.prog G36 := GsOk.cons k_refA_Momentum okG35
def c_refA_Pairs : Ctr := fun args _ K => match args with
  | [x0] => c1 x0 fun c => K (.tup [.int .i64 c.prs.1, .int .i64 c.prs.2.1, .int .i64 c.prs.2.2])
  | _ => False
noncomputable def X_refA_Pairs : Env Try.prog := ⟨Try.f39.ntmps, TT, G36, [], Try.f39.results.toList, TT_ok, okG36, EsOk.nil _, mixed⟩
theorem k_refA_Pairs : COk Try.prog 39 c_refA_Pairs :=
  ctr_of_wk X_refA_Pairs Try.func39 rfl (by kernel_rfl) rfl rfl fun args hp K hK => by
    unfold c_refA_Pairs at hK
    split at hK
    · obtain ⟨c, hK, e0⟩ := iff_c1 hK
      refine ⟨[Cel.sv c], [], _, by simp only [denL]; rw [e0] <;> rfl, trivial, fun _ _ b hb => (by cases hb), hK, Nat.le_of_ble_eq_true rfl, ?_⟩
      clear hK
      clear e0
      repeat' (first | (refine Wk.op ?_; intro K' hK') | (refine Wk.qop ?_; intro K' hK') | (refine hK' _ _ ?_; clear hK' K') | (refine hK' _ ?_; clear hK' K') | (refine hKT _ ?_; clear hKT hKF KT KF) | (refine hKF _ ?_; clear hKT hKF KT KF) | (refine Wk.cond ?_; intro KT KF hKT hKF) | (refine Wk.ret ?_) | (refine Wk.qnil ?_) | (refine Wk.draw ?_; intro K' hK') | (refine Wk.step rfl ?_) | (refine Wk.done ?_) | (with_reducible refine lexB_goal ?_; kernel_rfl) | (with_reducible refine lexT_goal ?_; kernel_rfl) | (refine And.intro ?_ ?_) | (intro hq; (try simp only [BF.H, Cel.eta, Rul.eta] at hq); (try (exfalso; first | omega | (simp [BF.b] at hq; done)))))
      all_goals (try simp only [Cel.eta, Rul.eta])
      all_goals (first | (with_reducible rfl) | exact trivial | assumption | exact Nat.le_of_ble_eq_true rfl | omega | skip)
      all_goals (first | (have h9 := Cel.facts (by assumption); (first | omega | (simp [Cel.eta, Rul.eta, den, denL, den_ofConst, BF.b, bfOf, Cel.sv, Rul.sv, Cel.prs, Cel.h, Cel.v, *]; done) | (simp [Cel.eta, Rul.eta, den, denL, den_ofConst, BF.b, bfOf, Cel.sv, Rul.sv, Cel.prs, Cel.h, Cel.v, *]; omega))) | (simp [Cel.eta, Rul.eta, den, denL, den_ofConst, BF.b, bfOf, Cel.sv, Rul.sv, Cel.prs, Cel.h, Cel.v]; done) | (simp [Cel.eta, Rul.eta, den, denL, den_ofConst, BF.b, bfOf, Cel.sv, Rul.sv, Cel.prs, Cel.h, Cel.v]; omega) | (simp [Cel.eta, Rul.eta, den, denL, den_ofConst, BF.b, bfOf, Cel.sv, Rul.sv, Cel.prs, Cel.h, Cel.v]; (repeat' split) <;> omega) | (simp [Cel.eta, Rul.eta, den, denL, den_ofConst, BF.b, bfOf, Cel.sv, Rul.sv, Cel.prs, Cel.h, Cel.v]; rw [Bool.eq_iff_iff]; (repeat' split) <;> simp <;> omega) | (simp [Cel.eta, Rul.eta, den, denL, den_ofConst, BF.b, bfOf, Cel.sv, Rul.sv, Cel.prs, Cel.h, Cel.v, *]; done) | (simp [Cel.eta, Rul.eta, den, denL, den_ofConst, BF.b, bfOf, Cel.sv, Rul.sv, Cel.prs, Cel.h, Cel.v, *]; omega))
    · exact hK.elim
def G37 : List (Nat × Ctr) := (39, c_refA_Pairs) :: G36
theorem okG37 : GsOk Try.prog G37 := GsOk.cons k_refA_Pairs okG36
def c_lawA_CellSums : Ctr := fun args _ K => match args with
  | [x0, x1] => c1 x0 fun c => r1 x1 fun r => K (.bool .tt)
  | _ => False
noncomputable def X_lawA_CellSums : Env Try.prog := ⟨Try.f6.ntmps, TT, G37, [], Try.f6.results.toList, TT_ok, okG37, EsOk.nil _, mixed⟩
theorem k_lawA_CellSums : COk Try.prog 6 c_lawA_CellSums :=
  ctr_of_wk X_lawA_CellSums Try.func6 rfl (by kernel_rfl) rfl rfl fun args hp K hK => by
    unfold c_lawA_CellSums at hK
    split at hK
    · obtain ⟨c, hK, e0⟩ := iff_c1 hK
      obtain ⟨r, hK, e1⟩ := iff_r1 hK
      refine ⟨[Cel.sv c, Rul.sv r], [], _, by simp only [denL]; rw [e0, e1] <;> rfl, trivial, fun _ _ b hb => (by cases hb), hK, Nat.le_of_ble_eq_true rfl, ?_⟩
      clear hK
      clear e0 e1
      repeat' (first | (refine Wk.op ?_; intro K' hK') | (refine Wk.qop ?_; intro K' hK') | (refine hK' _ _ ?_; clear hK' K') | (refine hK' _ ?_; clear hK' K') | (refine hKT _ ?_; clear hKT hKF KT KF) | (refine hKF _ ?_; clear hKT hKF KT KF) | (refine Wk.cond ?_; intro KT KF hKT hKF) | (refine Wk.ret ?_) | (refine Wk.qnil ?_) | (refine Wk.draw ?_; intro K' hK') | (refine Wk.step rfl ?_) | (refine Wk.done ?_) | (with_reducible refine lexB_goal ?_; kernel_rfl) | (with_reducible refine lexT_goal ?_; kernel_rfl) | (refine And.intro ?_ ?_) | (intro hq; (try simp only [BF.H, Cel.eta, Rul.eta] at hq); (try (exfalso; first | omega | (simp [BF.b] at hq; done)))))
      all_goals (try simp only [Cel.eta, Rul.eta])
      all_goals (first | (with_reducible rfl) | exact trivial | assumption | exact Nat.le_of_ble_eq_true rfl | omega | skip)
      all_goals (first | (have h9 := Cel.facts (by assumption); (first | omega | (simp [Cel.eta, Rul.eta, den, denL, den_ofConst, BF.b, bfOf, Cel.sv, Rul.sv, *]; done) | (simp [Cel.eta, Rul.eta, den, denL, den_ofConst, BF.b, bfOf, Cel.sv, Rul.sv, *]; omega))) | (simp [Cel.eta, Rul.eta, den, denL, den_ofConst, BF.b, bfOf, Cel.sv, Rul.sv]; done) | (simp [Cel.eta, Rul.eta, den, denL, den_ofConst, BF.b, bfOf, Cel.sv, Rul.sv]; omega) | (simp [Cel.eta, Rul.eta, den, denL, den_ofConst, BF.b, bfOf, Cel.sv, Rul.sv]; (repeat' split) <;> omega) | (simp [Cel.eta, Rul.eta, den, denL, den_ofConst, BF.b, bfOf, Cel.sv, Rul.sv]; rw [Bool.eq_iff_iff]; (repeat' split) <;> simp <;> omega) | (simp [Cel.eta, Rul.eta, den, denL, den_ofConst, BF.b, bfOf, Cel.sv, Rul.sv, *]; done) | (simp [Cel.eta, Rul.eta, den, denL, den_ofConst, BF.b, bfOf, Cel.sv, Rul.sv, *]; omega))
    · exact hK.elim
def G38 : List (Nat × Ctr) := (6, c_lawA_CellSums) :: G37
theorem okG38 : GsOk Try.prog G38 := GsOk.cons k_lawA_CellSums okG37
def c_cell_Norm : Ctr := fun args _ K => match args with
  | [x0] => c1 x0 fun c => K (.tup [Cel.sv c.norm.1, .int .i64 c.norm.2])
  | _ => False
noncomputable def X_cell_Norm : Env Try.prog := ⟨Try.f24.ntmps, TT, G38, [], Try.f24.results.toList, TT_ok, okG38, EsOk.nil _, mixed⟩
theorem k_cell_Norm : COk Try.prog 24 c_cell_Norm :=
  ctr_of_wk X_cell_Norm Try.func24 rfl (by kernel_rfl) rfl rfl fun args hp K hK => by
    unfold c_cell_Norm at hK
    split at hK
    · obtain ⟨c, hK, e0⟩ := iff_c1 hK
      refine ⟨[Cel.sv c], [], _, by simp only [denL]; rw [e0] <;> rfl, trivial, fun _ _ b hb => (by cases hb), hK, Nat.le_of_ble_eq_true rfl, ?_⟩
      clear hK
      clear e0
      repeat' (first | (refine Wk.op ?_; intro K' hK') | (refine Wk.qop ?_; intro K' hK') | (refine hK' _ _ ?_; clear hK' K') | (refine hK' _ ?_; clear hK' K') | (refine hKT _ ?_; clear hKT hKF KT KF) | (refine hKF _ ?_; clear hKT hKF KT KF) | (refine Wk.cond ?_; intro KT KF hKT hKF) | (refine Wk.ret ?_) | (refine Wk.qnil ?_) | (refine Wk.draw ?_; intro K' hK') | (refine Wk.step rfl ?_) | (refine Wk.done ?_) | (with_reducible refine lexB_goal ?_; kernel_rfl) | (with_reducible refine lexT_goal ?_; kernel_rfl) | (refine And.intro ?_ ?_) | (intro hq; (try simp only [BF.H, Cel.eta, Rul.eta] at hq); (try (exfalso; first | omega | (simp [BF.b] at hq; done)))))
      all_goals (try simp only [Cel.eta, Rul.eta])
      all_goals (first | (with_reducible rfl) | exact trivial | assumption | exact Nat.le_of_ble_eq_true rfl | omega | skip)
      all_goals (first | (have h9 := Cel.facts (by assumption); (first | omega | (simp [Cel.eta, Rul.eta, den, denL, den_ofConst, BF.b, bfOf, Cel.sv, Rul.sv, Cel.norm, Cel.zero, *]; done) | (simp [Cel.eta, Rul.eta, den, denL, den_ofConst, BF.b, bfOf, Cel.sv, Rul.sv, Cel.norm, Cel.zero, *]; omega))) | (simp [Cel.eta, Rul.eta, den, denL, den_ofConst, BF.b, bfOf, Cel.sv, Rul.sv, Cel.norm, Cel.zero]; done) | (simp [Cel.eta, Rul.eta, den, denL, den_ofConst, BF.b, bfOf, Cel.sv, Rul.sv, Cel.norm, Cel.zero]; omega) | (simp [Cel.eta, Rul.eta, den, denL, den_ofConst, BF.b, bfOf, Cel.sv, Rul.sv, Cel.norm, Cel.zero]; (repeat' split) <;> omega) | (simp [Cel.eta, Rul.eta, den, denL, den_ofConst, BF.b, bfOf, Cel.sv, Rul.sv, Cel.norm, Cel.zero]; rw [Bool.eq_iff_iff]; (repeat' split) <;> simp <;> omega) | (simp [Cel.eta, Rul.eta, den, denL, den_ofConst, BF.b, bfOf, Cel.sv, Rul.sv, Cel.norm, Cel.zero, *]; done) | (simp [Cel.eta, Rul.eta, den, denL, den_ofConst, BF.b, bfOf, Cel.sv, Rul.sv, Cel.norm, Cel.zero, *]; omega))
    · exact hK.elim
def G39 : List (Nat × Ctr) := (24, c_cell_Norm) :: G38
theorem okG39 : GsOk Try.prog G39 := GsOk.cons k_cell_Norm okG38
def c_cell_Place : Ctr := fun args _ K => match args with
  | [x0] => c1 x0 fun c => K (.tup [.int .i64 c.place.1, .int .i64 c.place.2.1, .int .i64 c.place.2.2])
  | _ => False
noncomputable def X_cell_Place : Env Try.prog := ⟨Try.f25.ntmps, TT, G39, [], Try.f25.results.toList, TT_ok, okG39, EsOk.nil _, mixed⟩
theorem k_cell_Place : COk Try.prog 25 c_cell_Place :=
  ctr_of_wk X_cell_Place Try.func25 rfl (by kernel_rfl) rfl rfl fun args hp K hK => by
    unfold c_cell_Place at hK
    split at hK
    · obtain ⟨c, hK, e0⟩ := iff_c1 hK
      refine ⟨[Cel.sv c], [], _, by simp only [denL]; rw [e0] <;> rfl, trivial, fun _ _ b hb => (by cases hb), hK, Nat.le_of_ble_eq_true rfl, ?_⟩
      clear hK
      clear e0
      repeat' (first | (refine Wk.op ?_; intro K' hK') | (refine Wk.qop ?_; intro K' hK') | (refine hK' _ _ ?_; clear hK' K') | (refine hK' _ ?_; clear hK' K') | (refine hKT _ ?_; clear hKT hKF KT KF) | (refine hKF _ ?_; clear hKT hKF KT KF) | (refine Wk.cond ?_; intro KT KF hKT hKF) | (refine Wk.ret ?_) | (refine Wk.qnil ?_) | (refine Wk.draw ?_; intro K' hK') | (refine Wk.step rfl ?_) | (refine Wk.done ?_) | (with_reducible refine lexB_goal ?_; kernel_rfl) | (with_reducible refine lexT_goal ?_; kernel_rfl) | (refine And.intro ?_ ?_) | (intro hq; (try simp only [BF.H, Cel.eta, Rul.eta] at hq); (try (exfalso; first | omega | (simp [BF.b] at hq; done)))))
      all_goals (try simp only [Cel.eta, Rul.eta])
      all_goals (first | (with_reducible rfl) | exact trivial | assumption | exact Nat.le_of_ble_eq_true rfl | omega | skip)
      all_goals (first | (have h9 := Cel.facts (by assumption); (first | omega | (simp [Cel.eta, Rul.eta, den, denL, den_ofConst, BF.b, bfOf, Cel.sv, Rul.sv, Cel.place, Cel.h, Cel.cls, *]; done) | (simp [Cel.eta, Rul.eta, den, denL, den_ofConst, BF.b, bfOf, Cel.sv, Rul.sv, Cel.place, Cel.h, Cel.cls, *]; omega))) | (simp [Cel.eta, Rul.eta, den, denL, den_ofConst, BF.b, bfOf, Cel.sv, Rul.sv, Cel.place, Cel.h, Cel.cls]; done) | (simp [Cel.eta, Rul.eta, den, denL, den_ofConst, BF.b, bfOf, Cel.sv, Rul.sv, Cel.place, Cel.h, Cel.cls]; omega) | (simp [Cel.eta, Rul.eta, den, denL, den_ofConst, BF.b, bfOf, Cel.sv, Rul.sv, Cel.place, Cel.h, Cel.cls]; (repeat' split) <;> omega) | (simp [Cel.eta, Rul.eta, den, denL, den_ofConst, BF.b, bfOf, Cel.sv, Rul.sv, Cel.place, Cel.h, Cel.cls]; rw [Bool.eq_iff_iff]; (repeat' split) <;> simp <;> omega) | (simp [Cel.eta, Rul.eta, den, denL, den_ofConst, BF.b, bfOf, Cel.sv, Rul.sv, Cel.place, Cel.h, Cel.cls, *]; done) | (simp [Cel.eta, Rul.eta, den, denL, den_ofConst, BF.b, bfOf, Cel.sv, Rul.sv, Cel.place, Cel.h, Cel.cls, *]; omega))
    · exact hK.elim
def G40 : List (Nat × Ctr) := (25, c_cell_Place) :: G39
theorem okG40 : GsOk Try.prog G40 := GsOk.cons k_cell_Place okG39
def c_cell_Same : Ctr := fun args _ K => match args with
  | [x0, x1] => c1 x0 fun a => c1 x1 fun b => K (.bool (.atom (Cel.same a b)))
  | _ => False
noncomputable def X_cell_Same : Env Try.prog := ⟨Try.f22.ntmps, TT, G40, [], Try.f22.results.toList, TT_ok, okG40, EsOk.nil _, mixed⟩
theorem k_cell_Same : COk Try.prog 22 c_cell_Same :=
  ctr_of_wk X_cell_Same Try.func22 rfl (by kernel_rfl) rfl rfl fun args hp K hK => by
    unfold c_cell_Same at hK
    split at hK
    · obtain ⟨a, hK, e0⟩ := iff_c1 hK
      obtain ⟨b, hK, e1⟩ := iff_c1 hK
      refine ⟨[Cel.sv a, Cel.sv b], [], _, by simp only [denL]; rw [e0, e1] <;> rfl, trivial, fun _ _ b hb => (by cases hb), hK, Nat.le_of_ble_eq_true rfl, ?_⟩
      clear hK
      clear e0 e1
      repeat' (first | (refine Wk.op ?_; intro K' hK') | (refine Wk.qop ?_; intro K' hK') | (refine hK' _ _ ?_; clear hK' K') | (refine hK' _ ?_; clear hK' K') | (refine hKT _ ?_; clear hKT hKF KT KF) | (refine hKF _ ?_; clear hKT hKF KT KF) | (refine Wk.cond ?_; intro KT KF hKT hKF) | (refine Wk.ret ?_) | (refine Wk.qnil ?_) | (refine Wk.draw ?_; intro K' hK') | (refine Wk.step rfl ?_) | (refine Wk.done ?_) | (with_reducible refine lexB_goal ?_; kernel_rfl) | (with_reducible refine lexT_goal ?_; kernel_rfl) | (refine And.intro ?_ ?_) | (intro hq; (try simp only [BF.H, Cel.eta, Rul.eta] at hq); (try (exfalso; first | omega | (simp [BF.b] at hq; done)))))
      all_goals (try simp only [Cel.eta, Rul.eta])
      all_goals (first | (with_reducible rfl) | exact trivial | assumption | exact Nat.le_of_ble_eq_true rfl | omega | skip)
      all_goals (first | (have h9 := Cel.facts (c := a) (by assumption); omega) | (have h9 := Cel.facts (c := b) (by assumption); omega) | (simp only [Cel.sv]; done) | rfl | (have h8 := Cel.cls_same (a := a) (b := b) (by assumption) (by assumption); simp only [Cel.eq_iff] at h8; simp [den, den_ofConst, BF.b, Cel.same, Cel.eq_iff, *]; rw [Bool.eq_iff_iff]; simpa using h8) | (simp [den, den_ofConst, BF.b, Cel.same, Cel.eq_iff, *]; done))
    · exact hK.elim
def G41 : List (Nat × Ctr) := (22, c_cell_Same) :: G40
theorem okG41 : GsOk Try.prog G41 := GsOk.cons k_cell_Same okG40
def c_refA_Norm : Ctr := fun args _ K => match args with
  | [x0] => c1 x0 fun c => K (.tup [Cel.sv c.norm.1, .int .i64 c.norm.2])
  | _ => False
noncomputable def X_refA_Norm : Env Try.prog := ⟨Try.f50.ntmps, TT, G41, [], Try.f50.results.toList, TT_ok, okG41, EsOk.nil _, mixed⟩
theorem k_refA_Norm : COk Try.prog 50 c_refA_Norm :=
  ctr_of_wk X_refA_Norm Try.func50 rfl (by kernel_rfl) rfl rfl fun args hp K hK => by
    unfold c_refA_Norm at hK
    split at hK
    · obtain ⟨c, hK, e0⟩ := iff_c1 hK
      refine ⟨[Cel.sv c], [], _, by simp only [denL]; rw [e0] <;> rfl, trivial, fun _ _ b hb => (by cases hb), hK, Nat.le_of_ble_eq_true rfl, ?_⟩
      clear hK
      clear e0
      repeat' (first | (refine Wk.op ?_; intro K' hK') | (refine Wk.qop ?_; intro K' hK') | (refine hK' _ _ ?_; clear hK' K') | (refine hK' _ ?_; clear hK' K') | (refine hKT _ ?_; clear hKT hKF KT KF) | (refine hKF _ ?_; clear hKT hKF KT KF) | (refine Wk.cond ?_; intro KT KF hKT hKF) | (refine Wk.ret ?_) | (refine Wk.qnil ?_) | (refine Wk.draw ?_; intro K' hK') | (refine Wk.step rfl ?_) | (refine Wk.done ?_) | (with_reducible refine lexB_goal ?_; kernel_rfl) | (with_reducible refine lexT_goal ?_; kernel_rfl) | (refine And.intro ?_ ?_) | (intro hq; (try simp only [BF.H, Cel.eta, Rul.eta] at hq); (try (exfalso; first | omega | (simp [BF.b] at hq; done)))))
      all_goals (try simp only [Cel.eta, Rul.eta])
      all_goals (first | (with_reducible rfl) | exact trivial | assumption | exact Nat.le_of_ble_eq_true rfl | omega | skip)
      all_goals (first | exact hpre | (have h9 := Cel.facts (by assumption); simp only [Cel.cls]; omega) | (have h8 := Cel.clsAt_cls (p := 0) (c := c) (by assumption); simp [den, denL, den_ofConst, Cel.norm, Cel.zero, Cel.sv, *] ; done) | (simp [den, denL, den_ofConst, Cel.norm, Cel.zero, Cel.sv, *] ; done))
    · exact hK.elim
def G42 : List (Nat × Ctr) := (50, c_refA_Norm) :: G41
theorem okG42 : GsOk Try.prog G42 := GsOk.cons k_refA_Norm okG41
def c_refA_Place : Ctr := fun args _ K => match args with
  | [x0] => c1 x0 fun c => K (.tup [.int .i64 c.place.1, .int .i64 c.place.2.1, .int .i64 c.place.2.2])
  | _ => False
noncomputable def X_refA_Place : Env Try.prog := ⟨Try.f51.ntmps, TT, G42, [], Try.f51.results.toList, TT_ok, okG42, EsOk.nil _, mixed⟩
theorem k_refA_Place : COk Try.prog 51 c_refA_Place :=
  ctr_of_wk X_refA_Place Try.func51 rfl (by kernel_rfl) rfl rfl fun args hp K hK => by
    unfold c_refA_Place at hK
    split at hK
    · obtain ⟨c, hK, e0⟩ := iff_c1 hK
      refine ⟨[Cel.sv c], [], _, by simp only [denL]; rw [e0] <;> rfl, trivial, fun _ _ b hb => (by cases hb), hK, Nat.le_of_ble_eq_true rfl, ?_⟩
      clear hK
      clear e0
      repeat' (first | (refine Wk.op ?_; intro K' hK') | (refine Wk.qop ?_; intro K' hK') | (refine hK' _ _ ?_; clear hK' K') | (refine hK' _ ?_; clear hK' K') | (refine hKT _ ?_; clear hKT hKF KT KF) | (refine hKF _ ?_; clear hKT hKF KT KF) | (refine Wk.cond ?_; intro KT KF hKT hKF) | (refine Wk.ret ?_) | (refine Wk.qnil ?_) | (refine Wk.draw ?_; intro K' hK') | (refine Wk.step rfl ?_) | (refine Wk.done ?_) | (with_reducible refine lexB_goal ?_; kernel_rfl) | (with_reducible refine lexT_goal ?_; kernel_rfl) | (refine And.intro ?_ ?_) | (intro hq; (try simp only [BF.H, Cel.eta, Rul.eta] at hq); (try (exfalso; first | omega | (simp [BF.b] at hq; done)))))
      all_goals (try simp only [Cel.eta, Rul.eta])
      all_goals (first | (with_reducible rfl) | exact trivial | assumption | exact Nat.le_of_ble_eq_true rfl | omega | skip)
      all_goals (first | (have h9 := Cel.facts (by assumption); (first | omega | (simp [Cel.eta, Rul.eta, den, denL, den_ofConst, BF.b, bfOf, Cel.sv, Rul.sv, Cel.place, Cel.h, Cel.cls, *]; done) | (simp [Cel.eta, Rul.eta, den, denL, den_ofConst, BF.b, bfOf, Cel.sv, Rul.sv, Cel.place, Cel.h, Cel.cls, *]; omega))) | (simp [Cel.eta, Rul.eta, den, denL, den_ofConst, BF.b, bfOf, Cel.sv, Rul.sv, Cel.place, Cel.h, Cel.cls]; done) | (simp [Cel.eta, Rul.eta, den, denL, den_ofConst, BF.b, bfOf, Cel.sv, Rul.sv, Cel.place, Cel.h, Cel.cls]; omega) | (simp [Cel.eta, Rul.eta, den, denL, den_ofConst, BF.b, bfOf, Cel.sv, Rul.sv, Cel.place, Cel.h, Cel.cls]; (repeat' split) <;> omega) | (simp [Cel.eta, Rul.eta, den, denL, den_ofConst, BF.b, bfOf, Cel.sv, Rul.sv, Cel.place, Cel.h, Cel.cls]; rw [Bool.eq_iff_iff]; (repeat' split) <;> simp <;> omega) | (simp [Cel.eta, Rul.eta, den, denL, den_ofConst, BF.b, bfOf, Cel.sv, Rul.sv, Cel.place, Cel.h, Cel.cls, *]; done) | (simp [Cel.eta, Rul.eta, den, denL, den_ofConst, BF.b, bfOf, Cel.sv, Rul.sv, Cel.place, Cel.h, Cel.cls, *]; omega))
    · exact hK.elim
def G43 : List (Nat × Ctr) := (51, c_refA_Place) :: G42
theorem okG43 : GsOk Try.prog G43 := GsOk.cons k_refA_Place okG42
def c_refA_Same : Ctr := fun args _ K => match args with
  | [x0, x1] => c1 x0 fun a => c1 x1 fun b => K (.bool (.atom (Cel.same a b)))
  | _ => False
noncomputable def X_refA_Same : Env Try.prog := ⟨Try.f23.ntmps, TT, G43, [], Try.f23.results.toList, TT_ok, okG43, EsOk.nil _, mixed⟩
theorem k_refA_Same : COk Try.prog 23 c_refA_Same :=
  ctr_of_wk X_refA_Same Try.func23 rfl (by kernel_rfl) rfl rfl fun args hp K hK => by
    unfold c_refA_Same at hK
    split at hK
    · obtain ⟨a, hK, e0⟩ := iff_c1 hK
      obtain ⟨b, hK, e1⟩ := iff_c1 hK
      refine ⟨[Cel.sv a, Cel.sv b], [], _, by simp only [denL]; rw [e0, e1] <;> rfl, trivial, fun _ _ b hb => (by cases hb), hK, Nat.le_of_ble_eq_true rfl, ?_⟩
      clear hK
      clear e0 e1
      repeat' (first | (refine Wk.op ?_; intro K' hK') | (refine Wk.qop ?_; intro K' hK') | (refine hK' _ _ ?_; clear hK' K') | (refine hK' _ ?_; clear hK' K') | (refine hKT _ ?_; clear hKT hKF KT KF) | (refine hKF _ ?_; clear hKT hKF KT KF) | (refine Wk.cond ?_; intro KT KF hKT hKF) | (refine Wk.ret ?_) | (refine Wk.qnil ?_) | (refine Wk.draw ?_; intro K' hK') | (refine Wk.step rfl ?_) | (refine Wk.done ?_) | (with_reducible refine lexB_goal ?_; kernel_rfl) | (with_reducible refine lexT_goal ?_; kernel_rfl) | (refine And.intro ?_ ?_) | (intro hq; (try simp only [BF.H, Cel.eta, Rul.eta] at hq); (try (exfalso; first | omega | (simp [BF.b] at hq; done)))))
      all_goals (try simp only [Cel.eta, Rul.eta])
      all_goals (first | (with_reducible rfl) | exact trivial | assumption | exact Nat.le_of_ble_eq_true rfl | omega | skip)
      all_goals (first | (have h9 := Cel.facts (c := a) (by assumption); omega) | (have h9 := Cel.facts (c := b) (by assumption); omega) | (simp only [Cel.sv]; done) | rfl | (have h8 := Cel.cls_same (a := a) (b := b) (by assumption) (by assumption); simp only [Cel.eq_iff] at h8; simp [den, den_ofConst, BF.b, Cel.same, Cel.eq_iff, *]; rw [Bool.eq_iff_iff]; simpa using h8) | (simp [den, den_ofConst, BF.b, Cel.same, Cel.eq_iff, *]; done))
    · exact hK.elim
def G44 : List (Nat × Ctr) := (23, c_refA_Same) :: G43
theorem okG44 : GsOk Try.prog G44 := GsOk.cons k_refA_Same okG43
def c_lawA_CellSame : Ctr := fun args _ K => match args with
  | [x0, x1, x2] => c1 x0 fun a => c1 x1 fun b => r1 x2 fun r => K (.bool .tt)
  | _ => False
noncomputable def X_lawA_CellSame : Env Try.prog := ⟨Try.f4.ntmps, TT, G44, [], Try.f4.results.toList, TT_ok, okG44, EsOk.nil _, mixed⟩
theorem k_lawA_CellSame : COk Try.prog 4 c_lawA_CellSame :=
  ctr_of_wk X_lawA_CellSame Try.func4 rfl (by kernel_rfl) rfl rfl fun args hp K hK => by
    unfold c_lawA_CellSame at hK
    split at hK
    · obtain ⟨a, hK, e0⟩ := iff_c1 hK
      obtain ⟨b, hK, e1⟩ := iff_c1 hK
      obtain ⟨r, hK, e2⟩ := iff_r1 hK
      refine ⟨[Cel.sv a, Cel.sv b, Rul.sv r], [], _, by simp only [denL]; rw [e0, e1, e2] <;> rfl, trivial, fun _ _ b hb => (by cases hb), hK, Nat.le_of_ble_eq_true rfl, ?_⟩
      clear hK
      clear e0 e1 e2
      repeat' (first | (refine Wk.op ?_; intro K' hK') | (refine Wk.qop ?_; intro K' hK') | (refine hK' _ _ ?_; clear hK' K') | (refine hK' _ ?_; clear hK' K') | (refine hKT _ ?_; clear hKT hKF KT KF) | (refine hKF _ ?_; clear hKT hKF KT KF) | (refine Wk.cond ?_; intro KT KF hKT hKF) | (refine Wk.ret ?_) | (refine Wk.qnil ?_) | (refine Wk.draw ?_; intro K' hK') | (refine Wk.step rfl ?_) | (refine Wk.done ?_) | (with_reducible refine lexB_goal ?_; kernel_rfl) | (with_reducible refine lexT_goal ?_; kernel_rfl) | (refine And.intro ?_ ?_) | (intro hq; (try simp only [BF.H, Cel.eta, Rul.eta] at hq); (try (exfalso; first | omega | (simp [BF.b] at hq; done)))))
      all_goals (try simp only [Cel.eta, Rul.eta])
      all_goals (first | (with_reducible rfl) | exact trivial | assumption | exact Nat.le_of_ble_eq_true rfl | omega | skip)
      all_goals (first | rfl | (exfalso; cases ha : a.ok <;> cases hb : b.ok <;> cases hr : r.ok <;> (first | (simp [Cel.norm, Cel.place, Cel.collide, Cel.same, Cel.zero, BF.b, ha, hb, hr] at *; done) | (have h1 := Cel.same_place ha hb; have h2 := Cel.after_inj ha hb hr; simp only [Cel.eq_iff] at h1 h2; simp [Cel.norm, Cel.place, Cel.collide, Cel.same, Cel.zero, BF.b, ha, hb, hr, Cel.eq_iff] at * <;> grind) | (have h1 := Cel.same_place ha hb; simp only [Cel.eq_iff] at h1; simp [Cel.norm, Cel.place, Cel.collide, Cel.same, Cel.zero, BF.b, ha, hb, hr, Cel.eq_iff] at * <;> grind))))
    · exact hK.elim
def G45 : List (Nat × Ctr) := (4, c_lawA_CellSame) :: G44
theorem okG45 : GsOk Try.prog G45 := GsOk.cons k_lawA_CellSame okG44
def c_lawA_CellKept : Ctr := fun args _ K => match args with
  | [x0, x1] => c1 x0 fun c => r1 x1 fun r => K (.bool .tt)
  | _ => False
noncomputable def X_lawA_CellKept : Env Try.prog := ⟨Try.f8.ntmps, TT, G45, [], Try.f8.results.toList, TT_ok, okG45, EsOk.nil _, mixed⟩
theorem k_lawA_CellKept : COk Try.prog 8 c_lawA_CellKept :=
  ctr_of_wk X_lawA_CellKept Try.func8 rfl (by kernel_rfl) rfl rfl fun args hp K hK => by
    unfold c_lawA_CellKept at hK
    split at hK
    · obtain ⟨c, hK, e0⟩ := iff_c1 hK
      obtain ⟨r, hK, e1⟩ := iff_r1 hK
      refine ⟨[Cel.sv c, Rul.sv r], [], _, by simp only [denL]; rw [e0, e1] <;> rfl, trivial, fun _ _ b hb => (by cases hb), hK, Nat.le_of_ble_eq_true rfl, ?_⟩
      clear hK
      clear e0 e1
      repeat' (first | (refine Wk.op ?_; intro K' hK') | (refine Wk.qop ?_; intro K' hK') | (refine hK' _ _ ?_; clear hK' K') | (refine hK' _ ?_; clear hK' K') | (refine hKT _ ?_; clear hKT hKF KT KF) | (refine hKF _ ?_; clear hKT hKF KT KF) | (refine Wk.cond ?_; intro KT KF hKT hKF) | (refine Wk.ret ?_) | (refine Wk.qnil ?_) | (refine Wk.draw ?_; intro K' hK') | (refine Wk.step rfl ?_) | (refine Wk.done ?_) | (with_reducible refine lexB_goal ?_; kernel_rfl) | (with_reducible refine lexT_goal ?_; kernel_rfl) | (refine And.intro ?_ ?_) | (intro hq; (try simp only [BF.H, Cel.eta, Rul.eta] at hq); (try (exfalso; first | omega | (simp [BF.b] at hq; done)))))
      all_goals (try simp only [Cel.eta, Rul.eta])
      all_goals (first | (with_reducible rfl) | exact trivial | assumption | exact Nat.le_of_ble_eq_true rfl | omega | skip)
      all_goals (first | rfl | (exfalso; obtain ⟨ha, hr⟩ := Cel.collide_ok (c := c) (r := r) (by assumption); obtain ⟨h1, h2, h3, h4, h5, h6, h7, h8, h9, h10⟩ := Cel.kept ha hr; simp [BF.b, h1, h2, h3, h4, h5, h6, h7, h8, h9, h10] at *))
    · exact hK.elim
def G46 : List (Nat × Ctr) := (8, c_lawA_CellKept) :: G45
theorem okG46 : GsOk Try.prog G46 := GsOk.cons k_lawA_CellKept okG45
end Go.Proofs.Ytcagdjbinkadpaa

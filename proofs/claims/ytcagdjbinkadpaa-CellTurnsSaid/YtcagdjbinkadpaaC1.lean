/- Contracts: what the functions hand back. -/
import Derived.Test.YtcagdjbinkadpaaT
import Derived.Test.YtcagdjbinkadpaaSpCell
import Derived.WalkSpells
import Derived.RegionTactic
import Derived.BigRegion
set_option linter.unusedSimpArgs false
set_option linter.unusedVariables false
namespace Go.Proofs.Ytcagdjbinkadpaa
open Go.Sx Go.RowKit

def G0 : List (Nat × Ctr) := []
theorem okG0 : GsOk Try.prog G0 := GsOk.nil _
def c_cell_within : Ctr := fun args _ K => match args with
  | [x0, x1, x2] => i1 x0 fun n => i1 x1 fun lo => i1 x2 fun hi => K (.bool (.and (.le lo n) (.le n hi)))
  | _ => False
noncomputable def X_cell_within : Env Try.prog := ⟨Try.f89.ntmps, TT, G0, [], Try.f89.results.toList, TT_ok, okG0, EsOk.nil _, mixed⟩
theorem k_cell_within : COk Try.prog 89 c_cell_within :=
  ctr_of_wk X_cell_within Try.func89 rfl (by kernel_rfl) rfl rfl fun args hp K hK => by
    unfold c_cell_within at hK
    split at hK
    · obtain ⟨n, hK, e0⟩ := iff_i1 hK
      obtain ⟨lo, hK, e1⟩ := iff_i1 hK
      obtain ⟨hi, hK, e2⟩ := iff_i1 hK
      refine ⟨[.int .i64 n, .int .i64 lo, .int .i64 hi], [], _, by simp only [denL]; rw [e0, e1, e2] <;> rfl, trivial, fun _ _ b hb => (by cases hb), hK, Nat.le_of_ble_eq_true rfl, ?_⟩
      clear hK
      clear e0 e1 e2
      repeat' (first | (refine Wk.op ?_; intro K' hK') | (refine Wk.qop ?_; intro K' hK') | (refine hK' _ _ ?_; clear hK' K') | (refine hK' _ ?_; clear hK' K') | (refine hKT _ ?_; clear hKT hKF KT KF) | (refine hKF _ ?_; clear hKT hKF KT KF) | (refine Wk.cond ?_; intro KT KF hKT hKF) | (refine Wk.ret ?_) | (refine Wk.qnil ?_) | (refine Wk.draw ?_; intro K' hK') | (refine Wk.step rfl ?_) | (refine Wk.done ?_) | (with_reducible refine lexB_goal ?_; kernel_rfl) | (with_reducible refine lexT_goal ?_; kernel_rfl) | (refine And.intro ?_ ?_) | (intro hq; (try simp only [BF.H, Cel.eta, Rul.eta] at hq); (try (exfalso; first | omega | (simp [BF.b] at hq; done)))))
      all_goals (try simp only [Cel.eta, Rul.eta])
      all_goals (first | (with_reducible rfl) | exact trivial | assumption | exact Nat.le_of_ble_eq_true rfl | omega | skip)
      all_goals (first | (simp [Cel.eta, Rul.eta, den, denL, den_ofConst, BF.b, bfOf, Cel.sv, Rul.sv]; done) | (simp [Cel.eta, Rul.eta, den, denL, den_ofConst, BF.b, bfOf, Cel.sv, Rul.sv]; omega) | (simp [Cel.eta, Rul.eta, den, denL, den_ofConst, BF.b, bfOf, Cel.sv, Rul.sv]; (repeat' split) <;> omega) | (simp [Cel.eta, Rul.eta, den, denL, den_ofConst, BF.b, bfOf, Cel.sv, Rul.sv]; rw [Bool.eq_iff_iff]; (repeat' split) <;> simp <;> omega) | (simp [Cel.eta, Rul.eta, den, denL, den_ofConst, BF.b, bfOf, Cel.sv, Rul.sv, *]; done) | (simp [Cel.eta, Rul.eta, den, denL, den_ofConst, BF.b, bfOf, Cel.sv, Rul.sv, *]; omega))
    · exact hK.elim
def G1 : List (Nat × Ctr) := (89, c_cell_within) :: G0
theorem okG1 : GsOk Try.prog G1 := GsOk.cons k_cell_within okG0
def c_refA_within : Ctr := fun args _ K => match args with
  | [x0, x1, x2] => i1 x0 fun n => i1 x1 fun lo => i1 x2 fun hi => K (.bool (.and (.le lo n) (.le n hi)))
  | _ => False
noncomputable def X_refA_within : Env Try.prog := ⟨Try.f88.ntmps, TT, G1, [], Try.f88.results.toList, TT_ok, okG1, EsOk.nil _, mixed⟩
theorem k_refA_within : COk Try.prog 88 c_refA_within :=
  ctr_of_wk X_refA_within Try.func88 rfl (by kernel_rfl) rfl rfl fun args hp K hK => by
    unfold c_refA_within at hK
    split at hK
    · obtain ⟨n, hK, e0⟩ := iff_i1 hK
      obtain ⟨lo, hK, e1⟩ := iff_i1 hK
      obtain ⟨hi, hK, e2⟩ := iff_i1 hK
      refine ⟨[.int .i64 n, .int .i64 lo, .int .i64 hi], [], _, by simp only [denL]; rw [e0, e1, e2] <;> rfl, trivial, fun _ _ b hb => (by cases hb), hK, Nat.le_of_ble_eq_true rfl, ?_⟩
      clear hK
      clear e0 e1 e2
      repeat' (first | (refine Wk.op ?_; intro K' hK') | (refine Wk.qop ?_; intro K' hK') | (refine hK' _ _ ?_; clear hK' K') | (refine hK' _ ?_; clear hK' K') | (refine hKT _ ?_; clear hKT hKF KT KF) | (refine hKF _ ?_; clear hKT hKF KT KF) | (refine Wk.cond ?_; intro KT KF hKT hKF) | (refine Wk.ret ?_) | (refine Wk.qnil ?_) | (refine Wk.draw ?_; intro K' hK') | (refine Wk.step rfl ?_) | (refine Wk.done ?_) | (with_reducible refine lexB_goal ?_; kernel_rfl) | (with_reducible refine lexT_goal ?_; kernel_rfl) | (refine And.intro ?_ ?_) | (intro hq; (try simp only [BF.H, Cel.eta, Rul.eta] at hq); (try (exfalso; first | omega | (simp [BF.b] at hq; done)))))
      all_goals (try simp only [Cel.eta, Rul.eta])
      all_goals (first | (with_reducible rfl) | exact trivial | assumption | exact Nat.le_of_ble_eq_true rfl | omega | skip)
      all_goals (first | (simp [Cel.eta, Rul.eta, den, denL, den_ofConst, BF.b, bfOf, Cel.sv, Rul.sv]; done) | (simp [Cel.eta, Rul.eta, den, denL, den_ofConst, BF.b, bfOf, Cel.sv, Rul.sv]; omega) | (simp [Cel.eta, Rul.eta, den, denL, den_ofConst, BF.b, bfOf, Cel.sv, Rul.sv]; (repeat' split) <;> omega) | (simp [Cel.eta, Rul.eta, den, denL, den_ofConst, BF.b, bfOf, Cel.sv, Rul.sv]; rw [Bool.eq_iff_iff]; (repeat' split) <;> simp <;> omega) | (simp [Cel.eta, Rul.eta, den, denL, den_ofConst, BF.b, bfOf, Cel.sv, Rul.sv, *]; done) | (simp [Cel.eta, Rul.eta, den, denL, den_ofConst, BF.b, bfOf, Cel.sv, Rul.sv, *]; omega))
    · exact hK.elim
def G2 : List (Nat × Ctr) := (88, c_refA_within) :: G1
theorem okG2 : GsOk Try.prog G2 := GsOk.cons k_refA_within okG1
def c_cell_sum : Ctr := fun args hp K => match args with
  | [x0] => s4 x0 hp fun c => K (.int .i64 (Cel.sum c))
  | _ => False
noncomputable def X_cell_sum : Env Try.prog := ⟨Try.f87.ntmps, TT, G2, [], Try.f87.results.toList, TT_ok, okG2, EsOk.nil _, mixed⟩
theorem k_cell_sum : COk Try.prog 87 c_cell_sum :=
  ctr_of_wk X_cell_sum Try.func87 rfl (by kernel_rfl) rfl rfl fun args hp K hK => by
    unfold c_cell_sum at hK
    split at hK
    · obtain ⟨c, nmc, capc, tyc, hK, e0, vwc⟩ := iff_s4 hK
      refine ⟨[.sl 0 (some nmc) 0 4 capc], [⟨nmc, false, false, tyc, .l [.int .i64 c.e, .int .i64 c.n, .int .i64 c.w, .int .i64 c.s]⟩], _, by simp only [denL]; rw [← e0] <;> rfl, ⟨⟨rfl, rfl⟩, trivial⟩, fun w hw b hb => (by rw [List.mem_singleton] at hb; subst hb; exact vwc w hw), hK, Nat.le_of_ble_eq_true rfl, ?_⟩
      clear hK
      clear e0
      clear vwc
      repeat' (first | (refine Wk.op ?_; intro K' hK') | (refine Wk.qop ?_; intro K' hK') | (refine hK' _ _ ?_; clear hK' K') | (refine hK' _ ?_; clear hK' K') | (refine hKT _ ?_; clear hKT hKF KT KF) | (refine hKF _ ?_; clear hKT hKF KT KF) | (refine Wk.cond ?_; intro KT KF hKT hKF) | (refine Wk.ret ?_) | (refine Wk.qnil ?_) | (refine Wk.draw ?_; intro K' hK') | (refine Wk.step rfl ?_) | (refine Wk.rounds 5 ?_) | (refine Wk.done ?_) | (with_reducible refine lexB_goal ?_; kernel_rfl) | (with_reducible refine lexT_goal ?_; kernel_rfl) | (refine And.intro ?_ ?_) | (intro hq; (try simp only [BF.H, Cel.eta, Rul.eta] at hq); (try (exfalso; first | omega | (simp [BF.b] at hq; done)))))
      all_goals (try simp only [Cel.eta, Rul.eta])
      all_goals (first | (with_reducible rfl) | exact trivial | assumption | exact Nat.le_of_ble_eq_true rfl | omega | skip)
      all_goals (first | (simp [Cel.eta, Rul.eta, den, denL, den_ofConst, BF.b, bfOf, Cel.sv, Rul.sv, Cel.sum, Cel.ok]; done) | (simp [Cel.eta, Rul.eta, den, denL, den_ofConst, BF.b, bfOf, Cel.sv, Rul.sv, Cel.sum, Cel.ok]; omega) | (simp [Cel.eta, Rul.eta, den, denL, den_ofConst, BF.b, bfOf, Cel.sv, Rul.sv, Cel.sum, Cel.ok]; (repeat' split) <;> omega) | (simp [Cel.eta, Rul.eta, den, denL, den_ofConst, BF.b, bfOf, Cel.sv, Rul.sv, Cel.sum, Cel.ok]; rw [Bool.eq_iff_iff]; (repeat' split) <;> simp <;> omega) | (simp [Cel.eta, Rul.eta, den, denL, den_ofConst, BF.b, bfOf, Cel.sv, Rul.sv, Cel.sum, Cel.ok, *]; done) | (simp [Cel.eta, Rul.eta, den, denL, den_ofConst, BF.b, bfOf, Cel.sv, Rul.sv, Cel.sum, Cel.ok, *]; omega))
    · exact hK.elim
def G3 : List (Nat × Ctr) := (87, c_cell_sum) :: G2
theorem okG3 : GsOk Try.prog G3 := GsOk.cons k_cell_sum okG2
def c_cell_Valid : Ctr := fun args _ K => match args with
  | [x0] => c1 x0 fun c => K (.bool (.atom (Cel.ok c)))
  | _ => False
noncomputable def X_cell_Valid : Env Try.prog := ⟨Try.f32.ntmps, TT, G3, [], Try.f32.results.toList, TT_ok, okG3, EsOk.nil _, mixed⟩
theorem k_cell_Valid : COk Try.prog 32 c_cell_Valid :=
  ctr_of_wk X_cell_Valid Try.func32 rfl (by kernel_rfl) rfl rfl fun args hp K hK => by
    unfold c_cell_Valid at hK
    split at hK
    · obtain ⟨c, hK, e0⟩ := iff_c1 hK
      refine ⟨[Cel.sv c], [], _, by simp only [denL]; rw [e0] <;> rfl, trivial, fun _ _ b hb => (by cases hb), hK, Nat.le_of_ble_eq_true rfl, ?_⟩
      clear hK
      clear e0
      repeat' (first | (refine Wk.op ?_; intro K' hK') | (refine Wk.qop ?_; intro K' hK') | (refine hK' _ _ ?_; clear hK' K') | (refine hK' _ ?_; clear hK' K') | (refine hKT _ ?_; clear hKT hKF KT KF) | (refine hKF _ ?_; clear hKT hKF KT KF) | (refine Wk.cond ?_; intro KT KF hKT hKF) | (refine Wk.ret ?_) | (refine Wk.qnil ?_) | (refine Wk.draw ?_; intro K' hK') | (refine Wk.step rfl ?_) | (refine Wk.done ?_) | (with_reducible refine lexB_goal ?_; kernel_rfl) | (with_reducible refine lexT_goal ?_; kernel_rfl) | (refine And.intro ?_ ?_) | (intro hq; (try simp only [BF.H, Cel.eta, Rul.eta] at hq); (try (exfalso; first | omega | (simp [BF.b] at hq; done)))))
      all_goals (try simp only [Cel.eta, Rul.eta])
      all_goals (first | (with_reducible rfl) | exact trivial | assumption | exact Nat.le_of_ble_eq_true rfl | omega | skip)
      all_goals (first | (simp [Cel.eta, Rul.eta, den, denL, den_ofConst, BF.b, bfOf, Cel.sv, Rul.sv, Cel.sum, Cel.ok]; done) | (simp [Cel.eta, Rul.eta, den, denL, den_ofConst, BF.b, bfOf, Cel.sv, Rul.sv, Cel.sum, Cel.ok]; omega) | (simp [Cel.eta, Rul.eta, den, denL, den_ofConst, BF.b, bfOf, Cel.sv, Rul.sv, Cel.sum, Cel.ok]; (repeat' split) <;> omega) | (simp [Cel.eta, Rul.eta, den, denL, den_ofConst, BF.b, bfOf, Cel.sv, Rul.sv, Cel.sum, Cel.ok]; rw [Bool.eq_iff_iff]; (repeat' split) <;> simp <;> omega) | (simp [Cel.eta, Rul.eta, den, denL, den_ofConst, BF.b, bfOf, Cel.sv, Rul.sv, Cel.sum, Cel.ok, *]; done) | (simp [Cel.eta, Rul.eta, den, denL, den_ofConst, BF.b, bfOf, Cel.sv, Rul.sv, Cel.sum, Cel.ok, *]; omega))
    · exact hK.elim
def G4 : List (Nat × Ctr) := (32, c_cell_Valid) :: G3
theorem okG4 : GsOk Try.prog G4 := GsOk.cons k_cell_Valid okG3
def c_refA_Valid : Ctr := fun args _ K => match args with
  | [x0] => c1 x0 fun c => K (.bool (.atom (Cel.ok c)))
  | _ => False
noncomputable def X_refA_Valid : Env Try.prog := ⟨Try.f33.ntmps, TT, G4, [], Try.f33.results.toList, TT_ok, okG4, EsOk.nil _, mixed⟩
theorem k_refA_Valid : COk Try.prog 33 c_refA_Valid :=
  ctr_of_wk X_refA_Valid Try.func33 rfl (by kernel_rfl) rfl rfl fun args hp K hK => by
    unfold c_refA_Valid at hK
    split at hK
    · obtain ⟨c, hK, e0⟩ := iff_c1 hK
      refine ⟨[Cel.sv c], [], _, by simp only [denL]; rw [e0] <;> rfl, trivial, fun _ _ b hb => (by cases hb), hK, Nat.le_of_ble_eq_true rfl, ?_⟩
      clear hK
      clear e0
      repeat' (first | (refine Wk.op ?_; intro K' hK') | (refine Wk.qop ?_; intro K' hK') | (refine hK' _ _ ?_; clear hK' K') | (refine hK' _ ?_; clear hK' K') | (refine hKT _ ?_; clear hKT hKF KT KF) | (refine hKF _ ?_; clear hKT hKF KT KF) | (refine Wk.cond ?_; intro KT KF hKT hKF) | (refine Wk.ret ?_) | (refine Wk.qnil ?_) | (refine Wk.draw ?_; intro K' hK') | (refine Wk.step rfl ?_) | (refine Wk.rounds 5 ?_) | (refine Wk.done ?_) | (with_reducible refine lexB_goal ?_; kernel_rfl) | (with_reducible refine lexT_goal ?_; kernel_rfl) | (refine And.intro ?_ ?_) | (intro hq; (try simp only [BF.H, Cel.eta, Rul.eta] at hq); (try (exfalso; first | omega | (simp [BF.b] at hq; done)))))
      all_goals (try simp only [Cel.eta, Rul.eta])
      all_goals (first | (with_reducible rfl) | exact trivial | assumption | exact Nat.le_of_ble_eq_true rfl | omega | skip)
      all_goals (first | (simp [Cel.eta, Rul.eta, den, denL, den_ofConst, BF.b, bfOf, Cel.sv, Rul.sv, Cel.ok]; done) | (simp [Cel.eta, Rul.eta, den, denL, den_ofConst, BF.b, bfOf, Cel.sv, Rul.sv, Cel.ok]; omega) | (simp [Cel.eta, Rul.eta, den, denL, den_ofConst, BF.b, bfOf, Cel.sv, Rul.sv, Cel.ok]; (repeat' split) <;> omega) | (simp [Cel.eta, Rul.eta, den, denL, den_ofConst, BF.b, bfOf, Cel.sv, Rul.sv, Cel.ok]; rw [Bool.eq_iff_iff]; (repeat' split) <;> simp <;> omega) | (simp [Cel.eta, Rul.eta, den, denL, den_ofConst, BF.b, bfOf, Cel.sv, Rul.sv, Cel.ok, *]; done) | (simp [Cel.eta, Rul.eta, den, denL, den_ofConst, BF.b, bfOf, Cel.sv, Rul.sv, Cel.ok, *]; omega))
    · exact hK.elim
def G5 : List (Nat × Ctr) := (33, c_refA_Valid) :: G4
theorem okG5 : GsOk Try.prog G5 := GsOk.cons k_refA_Valid okG4
def c_cell_ValidRule : Ctr := fun args _ K => match args with
  | [x0] => r1 x0 fun r => K (.bool (.atom (Rul.ok r)))
  | _ => False
noncomputable def X_cell_ValidRule : Env Try.prog := ⟨Try.f34.ntmps, TT, G5, [], Try.f34.results.toList, TT_ok, okG5, EsOk.nil _, mixed⟩
theorem k_cell_ValidRule : COk Try.prog 34 c_cell_ValidRule :=
  ctr_of_wk X_cell_ValidRule Try.func34 rfl (by kernel_rfl) rfl rfl fun args hp K hK => by
    unfold c_cell_ValidRule at hK
    split at hK
    · obtain ⟨r, hK, e0⟩ := iff_r1 hK
      refine ⟨[Rul.sv r], [], _, by simp only [denL]; rw [e0] <;> rfl, trivial, fun _ _ b hb => (by cases hb), hK, Nat.le_of_ble_eq_true rfl, ?_⟩
      clear hK
      clear e0
      repeat' (first | (refine Wk.op ?_; intro K' hK') | (refine Wk.qop ?_; intro K' hK') | (refine hK' _ _ ?_; clear hK' K') | (refine hK' _ ?_; clear hK' K') | (refine hKT _ ?_; clear hKT hKF KT KF) | (refine hKF _ ?_; clear hKT hKF KT KF) | (refine Wk.cond ?_; intro KT KF hKT hKF) | (refine Wk.ret ?_) | (refine Wk.qnil ?_) | (refine Wk.draw ?_; intro K' hK') | (refine Wk.step rfl ?_) | (refine Wk.done ?_) | (with_reducible refine lexB_goal ?_; kernel_rfl) | (with_reducible refine lexT_goal ?_; kernel_rfl) | (refine And.intro ?_ ?_) | (intro hq; (try simp only [BF.H, Cel.eta, Rul.eta] at hq); (try (exfalso; first | omega | (simp [BF.b] at hq; done)))))
      all_goals (try simp only [Cel.eta, Rul.eta])
      all_goals (first | (with_reducible rfl) | exact trivial | assumption | exact Nat.le_of_ble_eq_true rfl | omega | skip)
      all_goals (first | (simp [Cel.eta, Rul.eta, den, denL, den_ofConst, BF.b, bfOf, Cel.sv, Rul.sv, Rul.ok]; done) | (simp [Cel.eta, Rul.eta, den, denL, den_ofConst, BF.b, bfOf, Cel.sv, Rul.sv, Rul.ok]; omega) | (simp [Cel.eta, Rul.eta, den, denL, den_ofConst, BF.b, bfOf, Cel.sv, Rul.sv, Rul.ok]; (repeat' split) <;> omega) | (simp [Cel.eta, Rul.eta, den, denL, den_ofConst, BF.b, bfOf, Cel.sv, Rul.sv, Rul.ok]; rw [Bool.eq_iff_iff]; (repeat' split) <;> simp <;> omega) | (simp [Cel.eta, Rul.eta, den, denL, den_ofConst, BF.b, bfOf, Cel.sv, Rul.sv, Rul.ok, *]; done) | (simp [Cel.eta, Rul.eta, den, denL, den_ofConst, BF.b, bfOf, Cel.sv, Rul.sv, Rul.ok, *]; omega))
    · exact hK.elim
def G6 : List (Nat × Ctr) := (34, c_cell_ValidRule) :: G5
theorem okG6 : GsOk Try.prog G6 := GsOk.cons k_cell_ValidRule okG5
def c_refA_ValidRule : Ctr := fun args _ K => match args with
  | [x0] => r1 x0 fun r => K (.bool (.atom (Rul.ok r)))
  | _ => False
noncomputable def X_refA_ValidRule : Env Try.prog := ⟨Try.f35.ntmps, TT, G6, [], Try.f35.results.toList, TT_ok, okG6, EsOk.nil _, mixed⟩
theorem k_refA_ValidRule : COk Try.prog 35 c_refA_ValidRule :=
  ctr_of_wk X_refA_ValidRule Try.func35 rfl (by kernel_rfl) rfl rfl fun args hp K hK => by
    unfold c_refA_ValidRule at hK
    split at hK
    · obtain ⟨r, hK, e0⟩ := iff_r1 hK
      refine ⟨[Rul.sv r], [], _, by simp only [denL]; rw [e0] <;> rfl, trivial, fun _ _ b hb => (by cases hb), hK, Nat.le_of_ble_eq_true rfl, ?_⟩
      clear hK
      clear e0
      repeat' (first | (refine Wk.op ?_; intro K' hK') | (refine Wk.qop ?_; intro K' hK') | (refine hK' _ _ ?_; clear hK' K') | (refine hK' _ ?_; clear hK' K') | (refine hKT _ ?_; clear hKT hKF KT KF) | (refine hKF _ ?_; clear hKT hKF KT KF) | (refine Wk.cond ?_; intro KT KF hKT hKF) | (refine Wk.ret ?_) | (refine Wk.qnil ?_) | (refine Wk.draw ?_; intro K' hK') | (refine Wk.step rfl ?_) | (refine Wk.done ?_) | (with_reducible refine lexB_goal ?_; kernel_rfl) | (with_reducible refine lexT_goal ?_; kernel_rfl) | (refine And.intro ?_ ?_) | (intro hq; (try simp only [BF.H, Cel.eta, Rul.eta] at hq); (try (exfalso; first | omega | (simp [BF.b] at hq; done)))))
      all_goals (try simp only [Cel.eta, Rul.eta])
      all_goals (first | (with_reducible rfl) | exact trivial | assumption | exact Nat.le_of_ble_eq_true rfl | omega | skip)
      all_goals (first | (simp [Cel.eta, Rul.eta, den, denL, den_ofConst, BF.b, bfOf, Cel.sv, Rul.sv, Rul.ok]; done) | (simp [Cel.eta, Rul.eta, den, denL, den_ofConst, BF.b, bfOf, Cel.sv, Rul.sv, Rul.ok]; omega) | (simp [Cel.eta, Rul.eta, den, denL, den_ofConst, BF.b, bfOf, Cel.sv, Rul.sv, Rul.ok]; (repeat' split) <;> omega) | (simp [Cel.eta, Rul.eta, den, denL, den_ofConst, BF.b, bfOf, Cel.sv, Rul.sv, Rul.ok]; rw [Bool.eq_iff_iff]; (repeat' split) <;> simp <;> omega) | (simp [Cel.eta, Rul.eta, den, denL, den_ofConst, BF.b, bfOf, Cel.sv, Rul.sv, Rul.ok, *]; done) | (simp [Cel.eta, Rul.eta, den, denL, den_ofConst, BF.b, bfOf, Cel.sv, Rul.sv, Rul.ok, *]; omega))
    · exact hK.elim
def G7 : List (Nat × Ctr) := (35, c_refA_ValidRule) :: G6
theorem okG7 : GsOk Try.prog G7 := GsOk.cons k_refA_ValidRule okG6
def c_cell_pairs : Ctr := fun args _ K => match args with
  | [x0] => c1 x0 fun c => K (.tup [.int .i64 c.h, .int .i64 c.v])
  | _ => False
noncomputable def X_cell_pairs : Env Try.prog := ⟨Try.f84.ntmps, TT, G7, [], Try.f84.results.toList, TT_ok, okG7, EsOk.nil _, mixed⟩
theorem k_cell_pairs : COk Try.prog 84 c_cell_pairs :=
  ctr_of_wk X_cell_pairs Try.func84 rfl (by kernel_rfl) rfl rfl fun args hp K hK => by
    unfold c_cell_pairs at hK
    split at hK
    · obtain ⟨c, hK, e0⟩ := iff_c1 hK
      refine ⟨[Cel.sv c], [], _, by simp only [denL]; rw [e0] <;> rfl, trivial, fun _ _ b hb => (by cases hb), hK, Nat.le_of_ble_eq_true rfl, ?_⟩
      clear hK
      clear e0
      repeat' (first | (refine Wk.op ?_; intro K' hK') | (refine Wk.qop ?_; intro K' hK') | (refine hK' _ _ ?_; clear hK' K') | (refine hK' _ ?_; clear hK' K') | (refine hKT _ ?_; clear hKT hKF KT KF) | (refine hKF _ ?_; clear hKT hKF KT KF) | (refine Wk.cond ?_; intro KT KF hKT hKF) | (refine Wk.ret ?_) | (refine Wk.qnil ?_) | (refine Wk.draw ?_; intro K' hK') | (refine Wk.step rfl ?_) | (refine Wk.done ?_) | (with_reducible refine lexB_goal ?_; kernel_rfl) | (with_reducible refine lexT_goal ?_; kernel_rfl) | (refine And.intro ?_ ?_) | (intro hq; (try simp only [BF.H, Cel.eta, Rul.eta] at hq); (try (exfalso; first | omega | (simp [BF.b] at hq; done)))))
      all_goals (try simp only [Cel.eta, Rul.eta])
      all_goals (first | (with_reducible rfl) | exact trivial | assumption | exact Nat.le_of_ble_eq_true rfl | omega | skip)
      all_goals (first | (simp [Cel.eta, Rul.eta, den, denL, den_ofConst, BF.b, bfOf, Cel.sv, Rul.sv, Cel.h, Cel.v]; done) | (simp [Cel.eta, Rul.eta, den, denL, den_ofConst, BF.b, bfOf, Cel.sv, Rul.sv, Cel.h, Cel.v]; omega) | (simp [Cel.eta, Rul.eta, den, denL, den_ofConst, BF.b, bfOf, Cel.sv, Rul.sv, Cel.h, Cel.v]; (repeat' split) <;> omega) | (simp [Cel.eta, Rul.eta, den, denL, den_ofConst, BF.b, bfOf, Cel.sv, Rul.sv, Cel.h, Cel.v]; rw [Bool.eq_iff_iff]; (repeat' split) <;> simp <;> omega) | (simp [Cel.eta, Rul.eta, den, denL, den_ofConst, BF.b, bfOf, Cel.sv, Rul.sv, Cel.h, Cel.v, *]; done) | (simp [Cel.eta, Rul.eta, den, denL, den_ofConst, BF.b, bfOf, Cel.sv, Rul.sv, Cel.h, Cel.v, *]; omega))
    · exact hK.elim
def G8 : List (Nat × Ctr) := (84, c_cell_pairs) :: G7
theorem okG8 : GsOk Try.prog G8 := GsOk.cons k_cell_pairs okG7
def c_cell_placed : Ctr := fun args _ K => match args with
  | [x0, x1] => c1 x0 fun c => i1 x1 fun p => (c.ok = true ∧ 0 ≤ p ∧ p ≤ c.h + c.v) ∧ K (Cel.sv (c.placed p))
  | _ => False
noncomputable def X_cell_placed : Env Try.prog := ⟨Try.f82.ntmps, TT, G8, [], Try.f82.results.toList, TT_ok, okG8, EsOk.nil _, mixed⟩
theorem k_cell_placed : COk Try.prog 82 c_cell_placed :=
  ctr_of_wk X_cell_placed Try.func82 rfl (by kernel_rfl) rfl rfl fun args hp K hK => by
    unfold c_cell_placed at hK
    split at hK
    · obtain ⟨c, hK, e0⟩ := iff_c1 hK
      obtain ⟨p, hK, e1⟩ := iff_i1 hK
      obtain ⟨hpre, hK⟩ := hK
      have hf := Cel.facts hpre.1
      refine ⟨[Cel.sv c, .int .i64 p], [], _, by simp only [denL]; rw [e0, e1] <;> rfl, trivial, fun _ _ b hb => (by cases hb), hK, Nat.le_of_ble_eq_true rfl, ?_⟩
      clear hK
      clear e0 e1
      repeat' (first | (refine Wk.op ?_; intro K' hK') | (refine Wk.qop ?_; intro K' hK') | (refine hK' _ _ ?_; clear hK' K') | (refine hK' _ ?_; clear hK' K') | (refine hKT _ ?_; clear hKT hKF KT KF) | (refine hKF _ ?_; clear hKT hKF KT KF) | (refine Wk.cond ?_; intro KT KF hKT hKF) | (refine Wk.ret ?_) | (refine Wk.qnil ?_) | (refine Wk.draw ?_; intro K' hK') | (refine Wk.step rfl ?_) | (refine Wk.done ?_) | (with_reducible refine lexB_goal ?_; kernel_rfl) | (with_reducible refine lexT_goal ?_; kernel_rfl) | (refine And.intro ?_ ?_) | (intro hq; (try simp only [BF.H, Cel.eta, Rul.eta] at hq); (try (exfalso; first | omega | (simp [BF.b] at hq; done)))))
      all_goals (try simp only [Cel.eta, Rul.eta])
      all_goals (first | (with_reducible rfl) | exact trivial | assumption | exact Nat.le_of_ble_eq_true rfl | omega | skip)
      all_goals (first | (simp [Cel.eta, Rul.eta, den, denL, den_ofConst, BF.b, bfOf, Cel.sv, Rul.sv, Cel.placed]; done) | (simp [Cel.eta, Rul.eta, den, denL, den_ofConst, BF.b, bfOf, Cel.sv, Rul.sv, Cel.placed]; omega) | (simp [Cel.eta, Rul.eta, den, denL, den_ofConst, BF.b, bfOf, Cel.sv, Rul.sv, Cel.placed]; (repeat' split) <;> omega) | (simp [Cel.eta, Rul.eta, den, denL, den_ofConst, BF.b, bfOf, Cel.sv, Rul.sv, Cel.placed]; rw [Bool.eq_iff_iff]; (repeat' split) <;> simp <;> omega) | (simp [Cel.eta, Rul.eta, den, denL, den_ofConst, BF.b, bfOf, Cel.sv, Rul.sv, Cel.placed, *]; done) | (simp [Cel.eta, Rul.eta, den, denL, den_ofConst, BF.b, bfOf, Cel.sv, Rul.sv, Cel.placed, *]; omega))
    · exact hK.elim
def G9 : List (Nat × Ctr) := (82, c_cell_placed) :: G8
theorem okG9 : GsOk Try.prog G9 := GsOk.cons k_cell_placed okG8
def c_cell_turned_1 : Ctr := fun args _ K => match args with
  | [x0, x1] => i1 x0 fun h => i1 x1 fun a => K (.int .i64 h)
  | _ => False
noncomputable def X_cell_turned_1 : Env Try.prog := ⟨Try.f147.ntmps, TT, G9, [], Try.f147.results.toList, TT_ok, okG9, EsOk.nil _, mixed⟩
theorem k_cell_turned_1 : COk Try.prog 147 c_cell_turned_1 :=
  ctr_of_wk X_cell_turned_1 Try.func147 rfl (by kernel_rfl) rfl rfl fun args hp K hK => by
    unfold c_cell_turned_1 at hK
    split at hK
    · obtain ⟨h, hK, e0⟩ := iff_i1 hK
      obtain ⟨a, hK, e1⟩ := iff_i1 hK
      refine ⟨[.int .i64 h, .int .i64 a], [], _, by simp only [denL]; rw [e0, e1] <;> rfl, trivial, fun _ _ b hb => (by cases hb), hK, Nat.le_of_ble_eq_true rfl, ?_⟩
      clear hK
      clear e0 e1
      repeat' (first | (refine Wk.op ?_; intro K' hK') | (refine Wk.qop ?_; intro K' hK') | (refine hK' _ _ ?_; clear hK' K') | (refine hK' _ ?_; clear hK' K') | (refine hKT _ ?_; clear hKT hKF KT KF) | (refine hKF _ ?_; clear hKT hKF KT KF) | (refine Wk.cond ?_; intro KT KF hKT hKF) | (refine Wk.ret ?_) | (refine Wk.qnil ?_) | (refine Wk.draw ?_; intro K' hK') | (refine Wk.step rfl ?_) | (refine Wk.done ?_) | (with_reducible refine lexB_goal ?_; kernel_rfl) | (with_reducible refine lexT_goal ?_; kernel_rfl) | (refine And.intro ?_ ?_) | (intro hq; (try simp only [BF.H, Cel.eta, Rul.eta] at hq); (try (exfalso; first | omega | (simp [BF.b] at hq; done)))))
      all_goals (try simp only [Cel.eta, Rul.eta])
      all_goals (first | (with_reducible rfl) | exact trivial | assumption | exact Nat.le_of_ble_eq_true rfl | omega | skip)
      all_goals (first | (simp [Cel.eta, Rul.eta, den, denL, den_ofConst, BF.b, bfOf, Cel.sv, Rul.sv]; done) | (simp [Cel.eta, Rul.eta, den, denL, den_ofConst, BF.b, bfOf, Cel.sv, Rul.sv]; omega) | (simp [Cel.eta, Rul.eta, den, denL, den_ofConst, BF.b, bfOf, Cel.sv, Rul.sv]; (repeat' split) <;> omega) | (simp [Cel.eta, Rul.eta, den, denL, den_ofConst, BF.b, bfOf, Cel.sv, Rul.sv]; rw [Bool.eq_iff_iff]; (repeat' split) <;> simp <;> omega) | (simp [Cel.eta, Rul.eta, den, denL, den_ofConst, BF.b, bfOf, Cel.sv, Rul.sv, *]; done) | (simp [Cel.eta, Rul.eta, den, denL, den_ofConst, BF.b, bfOf, Cel.sv, Rul.sv, *]; omega))
    · exact hK.elim
def G10 : List (Nat × Ctr) := (147, c_cell_turned_1) :: G9
theorem okG10 : GsOk Try.prog G10 := GsOk.cons k_cell_turned_1 okG9
def c_cell_turned_2 : Ctr := fun args _ K => match args with
  | [x0, x1] => i1 x0 fun h => i1 x1 fun a => (0 ≤ h ∧ h ≤ a ∧ a ≤ 1000000000) ∧ K (.int .i64 (a - h))
  | _ => False
noncomputable def X_cell_turned_2 : Env Try.prog := ⟨Try.f148.ntmps, TT, G10, [], Try.f148.results.toList, TT_ok, okG10, EsOk.nil _, mixed⟩
theorem k_cell_turned_2 : COk Try.prog 148 c_cell_turned_2 :=
  ctr_of_wk X_cell_turned_2 Try.func148 rfl (by kernel_rfl) rfl rfl fun args hp K hK => by
    unfold c_cell_turned_2 at hK
    split at hK
    · obtain ⟨h, hK, e0⟩ := iff_i1 hK
      obtain ⟨a, hK, e1⟩ := iff_i1 hK
      obtain ⟨hpre, hK⟩ := hK
      refine ⟨[.int .i64 h, .int .i64 a], [], _, by simp only [denL]; rw [e0, e1] <;> rfl, trivial, fun _ _ b hb => (by cases hb), hK, Nat.le_of_ble_eq_true rfl, ?_⟩
      clear hK
      clear e0 e1
      repeat' (first | (refine Wk.op ?_; intro K' hK') | (refine Wk.qop ?_; intro K' hK') | (refine hK' _ _ ?_; clear hK' K') | (refine hK' _ ?_; clear hK' K') | (refine hKT _ ?_; clear hKT hKF KT KF) | (refine hKF _ ?_; clear hKT hKF KT KF) | (refine Wk.cond ?_; intro KT KF hKT hKF) | (refine Wk.ret ?_) | (refine Wk.qnil ?_) | (refine Wk.draw ?_; intro K' hK') | (refine Wk.step rfl ?_) | (refine Wk.done ?_) | (with_reducible refine lexB_goal ?_; kernel_rfl) | (with_reducible refine lexT_goal ?_; kernel_rfl) | (refine And.intro ?_ ?_) | (intro hq; (try simp only [BF.H, Cel.eta, Rul.eta] at hq); (try (exfalso; first | omega | (simp [BF.b] at hq; done)))))
      all_goals (try simp only [Cel.eta, Rul.eta])
      all_goals (first | (with_reducible rfl) | exact trivial | assumption | exact Nat.le_of_ble_eq_true rfl | omega | skip)
      all_goals (first | (simp [Cel.eta, Rul.eta, den, denL, den_ofConst, BF.b, bfOf, Cel.sv, Rul.sv]; done) | (simp [Cel.eta, Rul.eta, den, denL, den_ofConst, BF.b, bfOf, Cel.sv, Rul.sv]; omega) | (simp [Cel.eta, Rul.eta, den, denL, den_ofConst, BF.b, bfOf, Cel.sv, Rul.sv]; (repeat' split) <;> omega) | (simp [Cel.eta, Rul.eta, den, denL, den_ofConst, BF.b, bfOf, Cel.sv, Rul.sv]; rw [Bool.eq_iff_iff]; (repeat' split) <;> simp <;> omega) | (simp [Cel.eta, Rul.eta, den, denL, den_ofConst, BF.b, bfOf, Cel.sv, Rul.sv, *]; done) | (simp [Cel.eta, Rul.eta, den, denL, den_ofConst, BF.b, bfOf, Cel.sv, Rul.sv, *]; omega))
    · exact hK.elim
def G11 : List (Nat × Ctr) := (148, c_cell_turned_2) :: G10
theorem okG11 : GsOk Try.prog G11 := GsOk.cons k_cell_turned_2 okG10
def c_cell_turned_3 : Ctr := fun args hp K => match args with
  | [x0, x1, x2] => i1 x0 fun h => i1 x1 fun a => p2 x2 hp fun r => (0 ≤ h ∧ h ≤ a ∧ a ≤ 1000000000 ∧ -1000000000 ≤ r.b ∧ r.b ≤ 1000000000) ∧ K (.int .i64 ((h + r.b) % (a + 1)))
  | _ => False
noncomputable def X_cell_turned_3 : Env Try.prog := ⟨Try.f149.ntmps, TT, G11, [], Try.f149.results.toList, TT_ok, okG11, EsOk.nil _, mixed⟩
theorem k_cell_turned_3 : COk Try.prog 149 c_cell_turned_3 :=
  ctr_of_wk X_cell_turned_3 Try.func149 rfl (by kernel_rfl) rfl rfl fun args hp K hK => by
    unfold c_cell_turned_3 at hK
    split at hK
    · obtain ⟨h, hK, e0⟩ := iff_i1 hK
      obtain ⟨a, hK, e1⟩ := iff_i1 hK
      obtain ⟨r, nmr, tyr, hK, e2, vwr⟩ := iff_p2 hK
      obtain ⟨hpre, hK⟩ := hK
      have ht := adj_tmod (a := h + r.b) (b := a + 1) (by omega)
      have h1 := Int.emod_nonneg (h + r.b) (show a + 1 ≠ 0 by omega)
      have h2 := Int.emod_lt_of_pos (h + r.b) (show 0 < a + 1 by omega)
      have h3 : (h + r.b).tmod (a + 1) = (h + r.b) % (a + 1) ∨ (h + r.b).tmod (a + 1) + (a + 1) = (h + r.b) % (a + 1) ∧ (h + r.b).tmod (a + 1) < 0 := by split at ht <;> omega
      refine ⟨[.int .i64 h, .int .i64 a, .ptr 0 nmr 0], [⟨nmr, false, false, tyr, .l [.int .i64 r.k, .int .i64 r.b]⟩], _, by simp only [denL]; rw [e0, e1, ← e2] <;> rfl, ⟨⟨rfl, rfl⟩, trivial⟩, fun w hw b hb => (by rw [List.mem_singleton] at hb; subst hb; exact vwr w hw), hK, Nat.le_of_ble_eq_true rfl, ?_⟩
      clear hK
      clear e0 e1 e2
      clear vwr
      repeat' (first | (refine Wk.op ?_; intro K' hK') | (refine Wk.qop ?_; intro K' hK') | (refine hK' _ _ ?_; clear hK' K') | (refine hK' _ ?_; clear hK' K') | (refine hKT _ ?_; clear hKT hKF KT KF) | (refine hKF _ ?_; clear hKT hKF KT KF) | (refine Wk.cond ?_; intro KT KF hKT hKF) | (refine Wk.ret ?_) | (refine Wk.qnil ?_) | (refine Wk.draw ?_; intro K' hK') | (refine Wk.step rfl ?_) | (refine Wk.done ?_) | (with_reducible refine lexB_goal ?_; kernel_rfl) | (with_reducible refine lexT_goal ?_; kernel_rfl) | (refine And.intro ?_ ?_) | (intro hq; (try simp only [BF.H, Cel.eta, Rul.eta] at hq); (try (exfalso; first | omega | (simp [BF.b] at hq; done)))))
      all_goals (try simp only [Cel.eta, Rul.eta])
      all_goals (first | (with_reducible rfl) | exact trivial | assumption | exact Nat.le_of_ble_eq_true rfl | omega | skip)
      all_goals (simp [den, denL]; split at ht <;> omega)
    · exact hK.elim
def G12 : List (Nat × Ctr) := (149, c_cell_turned_3) :: G11
theorem okG12 : GsOk Try.prog G12 := GsOk.cons k_cell_turned_3 okG11
def c_cell_turned : Ctr := fun args _ K => match args with
  | [x0, x1, x2] => r1 x0 fun r => i1 x1 fun h => i1 x2 fun a => (r.ok = true ∧ 0 ≤ h ∧ h ≤ a ∧ a ≤ 1000000000) ∧ K (.int .i64 (r.turn h a))
  | _ => False
noncomputable def X_cell_turned : Env Try.prog := ⟨Try.f123.ntmps, TT, G12, [], Try.f123.results.toList, TT_ok, okG12, EsOk.nil _, mixed⟩
theorem k_cell_turned : COk Try.prog 123 c_cell_turned :=
  ctr_of_wk X_cell_turned Try.func123 rfl (by kernel_rfl) rfl rfl fun args hp K hK => by
    unfold c_cell_turned at hK
    split at hK
    · obtain ⟨r, hK, e0⟩ := iff_r1 hK
      obtain ⟨h, hK, e1⟩ := iff_i1 hK
      obtain ⟨a, hK, e2⟩ := iff_i1 hK
      obtain ⟨hpre, hK⟩ := hK
      have hr := Rul.ok_iff.1 hpre.1
      refine ⟨[Rul.sv r, .int .i64 h, .int .i64 a], [], _, by simp only [denL]; rw [e0, e1, e2] <;> rfl, trivial, fun _ _ b hb => (by cases hb), hK, Nat.le_of_ble_eq_true rfl, ?_⟩
      clear hK
      clear e0 e1 e2
      repeat' (first | (refine Wk.op ?_; intro K' hK') | (refine Wk.qop ?_; intro K' hK') | (refine hK' _ _ ?_; clear hK' K') | (refine hK' _ ?_; clear hK' K') | (refine hKT _ ?_; clear hKT hKF KT KF) | (refine hKF _ ?_; clear hKT hKF KT KF) | (refine Wk.cond ?_; intro KT KF hKT hKF) | (refine Wk.ret ?_) | (refine Wk.qnil ?_) | (refine Wk.draw ?_; intro K' hK') | (refine Wk.step rfl ?_) | (refine Wk.done ?_) | (with_reducible refine lexB_goal ?_; kernel_rfl) | (with_reducible refine lexT_goal ?_; kernel_rfl) | (refine And.intro ?_ ?_) | (intro hq; (try simp only [BF.H, Cel.eta, Rul.eta] at hq); (try (exfalso; first | omega | (simp [BF.b] at hq; done)))))
      all_goals (try simp only [Cel.eta, Rul.eta])
      all_goals (first | (with_reducible rfl) | exact trivial | assumption | exact Nat.le_of_ble_eq_true rfl | omega | skip)
      all_goals (first | (simp [Cel.eta, Rul.eta, den, denL, den_ofConst, BF.b, bfOf, Cel.sv, Rul.sv, Rul.turn]; done) | (simp [Cel.eta, Rul.eta, den, denL, den_ofConst, BF.b, bfOf, Cel.sv, Rul.sv, Rul.turn]; omega) | (simp [Cel.eta, Rul.eta, den, denL, den_ofConst, BF.b, bfOf, Cel.sv, Rul.sv, Rul.turn]; (repeat' split) <;> omega) | (simp [Cel.eta, Rul.eta, den, denL, den_ofConst, BF.b, bfOf, Cel.sv, Rul.sv, Rul.turn]; rw [Bool.eq_iff_iff]; (repeat' split) <;> simp <;> omega) | (simp [Cel.eta, Rul.eta, den, denL, den_ofConst, BF.b, bfOf, Cel.sv, Rul.sv, Rul.turn, *]; done) | (simp [Cel.eta, Rul.eta, den, denL, den_ofConst, BF.b, bfOf, Cel.sv, Rul.sv, Rul.turn, *]; omega))
    · exact hK.elim
def G13 : List (Nat × Ctr) := (123, c_cell_turned) :: G12
theorem okG13 : GsOk Try.prog G13 := GsOk.cons k_cell_turned okG12
def c_cell_collided : Ctr := fun args _ K => match args with
  | [x0, x1] => c1 x0 fun c => r1 x1 fun r => (c.ok = true ∧ r.ok = true) ∧ K (Cel.sv (c.after r))
  | _ => False
noncomputable def X_cell_collided : Env Try.prog := ⟨Try.f78.ntmps, TT, G13, [], Try.f78.results.toList, TT_ok, okG13, EsOk.nil _, mixed⟩
theorem k_cell_collided : COk Try.prog 78 c_cell_collided :=
  ctr_of_wk X_cell_collided Try.func78 rfl (by kernel_rfl) rfl rfl fun args hp K hK => by
    unfold c_cell_collided at hK
    split at hK
    · obtain ⟨c, hK, e0⟩ := iff_c1 hK
      obtain ⟨r, hK, e1⟩ := iff_r1 hK
      obtain ⟨hpre, hK⟩ := hK
      have hf := Cel.facts hpre.1
      have ht := Cel.turn_range hpre.1 hpre.2
      refine ⟨[Cel.sv c, Rul.sv r], [], _, by simp only [denL]; rw [e0, e1] <;> rfl, trivial, fun _ _ b hb => (by cases hb), hK, Nat.le_of_ble_eq_true rfl, ?_⟩
      clear hK
      clear e0 e1
      repeat' (first | (refine Wk.op ?_; intro K' hK') | (refine Wk.qop ?_; intro K' hK') | (refine hK' _ _ ?_; clear hK' K') | (refine hK' _ ?_; clear hK' K') | (refine hKT _ ?_; clear hKT hKF KT KF) | (refine hKF _ ?_; clear hKT hKF KT KF) | (refine Wk.cond ?_; intro KT KF hKT hKF) | (refine Wk.ret ?_) | (refine Wk.qnil ?_) | (refine Wk.draw ?_; intro K' hK') | (refine Wk.step rfl ?_) | (refine Wk.done ?_) | (with_reducible refine lexB_goal ?_; kernel_rfl) | (with_reducible refine lexT_goal ?_; kernel_rfl) | (refine And.intro ?_ ?_) | (intro hq; (try simp only [BF.H, Cel.eta, Rul.eta] at hq); (try (exfalso; first | omega | (simp [BF.b] at hq; done)))))
      all_goals (try simp only [Cel.eta, Rul.eta])
      all_goals (first | (with_reducible rfl) | exact trivial | assumption | exact Nat.le_of_ble_eq_true rfl | omega | skip)
      all_goals (first | (simp [Cel.eta, Rul.eta, den, denL, den_ofConst, BF.b, bfOf, Cel.sv, Rul.sv, Cel.after]; done) | (simp [Cel.eta, Rul.eta, den, denL, den_ofConst, BF.b, bfOf, Cel.sv, Rul.sv, Cel.after]; omega) | (simp [Cel.eta, Rul.eta, den, denL, den_ofConst, BF.b, bfOf, Cel.sv, Rul.sv, Cel.after]; (repeat' split) <;> omega) | (simp [Cel.eta, Rul.eta, den, denL, den_ofConst, BF.b, bfOf, Cel.sv, Rul.sv, Cel.after]; rw [Bool.eq_iff_iff]; (repeat' split) <;> simp <;> omega) | (simp [Cel.eta, Rul.eta, den, denL, den_ofConst, BF.b, bfOf, Cel.sv, Rul.sv, Cel.after, *]; done) | (simp [Cel.eta, Rul.eta, den, denL, den_ofConst, BF.b, bfOf, Cel.sv, Rul.sv, Cel.after, *]; omega))
    · exact hK.elim
def G14 : List (Nat × Ctr) := (78, c_cell_collided) :: G13
theorem okG14 : GsOk Try.prog G14 := GsOk.cons k_cell_collided okG13
def c_cell_inverse : Ctr := fun args _ K => match args with
  | [x0] => r1 x0 fun r => (r.ok = true) ∧ K (Rul.sv r.inv)
  | _ => False
noncomputable def X_cell_inverse : Env Try.prog := ⟨Try.f80.ntmps, TT, G14, [], Try.f80.results.toList, TT_ok, okG14, EsOk.nil _, mixed⟩
theorem k_cell_inverse : COk Try.prog 80 c_cell_inverse :=
  ctr_of_wk X_cell_inverse Try.func80 rfl (by kernel_rfl) rfl rfl fun args hp K hK => by
    unfold c_cell_inverse at hK
    split at hK
    · obtain ⟨r, hK, e0⟩ := iff_r1 hK
      obtain ⟨hpre, hK⟩ := hK
      have hr := Rul.ok_iff.1 hpre
      refine ⟨[Rul.sv r], [], _, by simp only [denL]; rw [e0] <;> rfl, trivial, fun _ _ b hb => (by cases hb), hK, Nat.le_of_ble_eq_true rfl, ?_⟩
      clear hK
      clear e0
      repeat' (first | (refine Wk.op ?_; intro K' hK') | (refine Wk.qop ?_; intro K' hK') | (refine hK' _ _ ?_; clear hK' K') | (refine hK' _ ?_; clear hK' K') | (refine hKT _ ?_; clear hKT hKF KT KF) | (refine hKF _ ?_; clear hKT hKF KT KF) | (refine Wk.cond ?_; intro KT KF hKT hKF) | (refine Wk.ret ?_) | (refine Wk.qnil ?_) | (refine Wk.draw ?_; intro K' hK') | (refine Wk.step rfl ?_) | (refine Wk.done ?_) | (with_reducible refine lexB_goal ?_; kernel_rfl) | (with_reducible refine lexT_goal ?_; kernel_rfl) | (refine And.intro ?_ ?_) | (intro hq; (try simp only [BF.H, Cel.eta, Rul.eta] at hq); (try (exfalso; first | omega | (simp [BF.b] at hq; done)))))
      all_goals (try simp only [Cel.eta, Rul.eta])
      all_goals (first | (with_reducible rfl) | exact trivial | assumption | exact Nat.le_of_ble_eq_true rfl | omega | skip)
      all_goals (first | (simp [Cel.eta, Rul.eta, den, denL, den_ofConst, BF.b, bfOf, Cel.sv, Rul.sv, Rul.inv]; done) | (simp [Cel.eta, Rul.eta, den, denL, den_ofConst, BF.b, bfOf, Cel.sv, Rul.sv, Rul.inv]; omega) | (simp [Cel.eta, Rul.eta, den, denL, den_ofConst, BF.b, bfOf, Cel.sv, Rul.sv, Rul.inv]; (repeat' split) <;> omega) | (simp [Cel.eta, Rul.eta, den, denL, den_ofConst, BF.b, bfOf, Cel.sv, Rul.sv, Rul.inv]; rw [Bool.eq_iff_iff]; (repeat' split) <;> simp <;> omega) | (simp [Cel.eta, Rul.eta, den, denL, den_ofConst, BF.b, bfOf, Cel.sv, Rul.sv, Rul.inv, *]; done) | (simp [Cel.eta, Rul.eta, den, denL, den_ofConst, BF.b, bfOf, Cel.sv, Rul.sv, Rul.inv, *]; omega))
    · exact hK.elim
def G15 : List (Nat × Ctr) := (80, c_cell_inverse) :: G14
theorem okG15 : GsOk Try.prog G15 := GsOk.cons k_cell_inverse okG14
def c_cell_Collide : Ctr := fun args _ K => match args with
  | [x0, x1] => c1 x0 fun c => r1 x1 fun r => K (.tup [Cel.sv (c.collide r).1, .int .i64 (c.collide r).2])
  | _ => False
noncomputable def X_cell_Collide : Env Try.prog := ⟨Try.f15.ntmps, TT, G15, [], Try.f15.results.toList, TT_ok, okG15, EsOk.nil _, mixed⟩
theorem k_cell_Collide : COk Try.prog 15 c_cell_Collide :=
  ctr_of_wk X_cell_Collide Try.func15 rfl (by kernel_rfl) rfl rfl fun args hp K hK => by
    unfold c_cell_Collide at hK
    split at hK
    · obtain ⟨c, hK, e0⟩ := iff_c1 hK
      obtain ⟨r, hK, e1⟩ := iff_r1 hK
      refine ⟨[Cel.sv c, Rul.sv r], [], _, by simp only [denL]; rw [e0, e1] <;> rfl, trivial, fun _ _ b hb => (by cases hb), hK, Nat.le_of_ble_eq_true rfl, ?_⟩
      clear hK
      clear e0 e1
      repeat' (first | (refine Wk.op ?_; intro K' hK') | (refine Wk.qop ?_; intro K' hK') | (refine hK' _ _ ?_; clear hK' K') | (refine hK' _ ?_; clear hK' K') | (refine hKT _ ?_; clear hKT hKF KT KF) | (refine hKF _ ?_; clear hKT hKF KT KF) | (refine Wk.cond ?_; intro KT KF hKT hKF) | (refine Wk.ret ?_) | (refine Wk.qnil ?_) | (refine Wk.draw ?_; intro K' hK') | (refine Wk.step rfl ?_) | (refine Wk.done ?_) | (with_reducible refine lexB_goal ?_; kernel_rfl) | (with_reducible refine lexT_goal ?_; kernel_rfl) | (refine And.intro ?_ ?_) | (intro hq; (try simp only [BF.H, Cel.eta, Rul.eta] at hq); (try (exfalso; first | omega | (simp [BF.b] at hq; done)))))
      all_goals (try simp only [Cel.eta, Rul.eta])
      all_goals (first | (with_reducible rfl) | exact trivial | assumption | exact Nat.le_of_ble_eq_true rfl | omega | skip)
      all_goals (first | (simp [Cel.eta, Rul.eta, den, denL, den_ofConst, BF.b, bfOf, Cel.sv, Rul.sv, Cel.collide, Cel.zero]; done) | (simp [Cel.eta, Rul.eta, den, denL, den_ofConst, BF.b, bfOf, Cel.sv, Rul.sv, Cel.collide, Cel.zero]; omega) | (simp [Cel.eta, Rul.eta, den, denL, den_ofConst, BF.b, bfOf, Cel.sv, Rul.sv, Cel.collide, Cel.zero]; (repeat' split) <;> omega) | (simp [Cel.eta, Rul.eta, den, denL, den_ofConst, BF.b, bfOf, Cel.sv, Rul.sv, Cel.collide, Cel.zero]; rw [Bool.eq_iff_iff]; (repeat' split) <;> simp <;> omega) | (simp [Cel.eta, Rul.eta, den, denL, den_ofConst, BF.b, bfOf, Cel.sv, Rul.sv, Cel.collide, Cel.zero, *]; done) | (simp [Cel.eta, Rul.eta, den, denL, den_ofConst, BF.b, bfOf, Cel.sv, Rul.sv, Cel.collide, Cel.zero, *]; omega))
    · exact hK.elim
def G16 : List (Nat × Ctr) := (15, c_cell_Collide) :: G15
theorem okG16 : GsOk Try.prog G16 := GsOk.cons k_cell_Collide okG15
def c_cell_Undo : Ctr := fun args _ K => match args with
  | [x0, x1] => c1 x0 fun c => r1 x1 fun r => K (.tup [Cel.sv (c.undo r).1, .int .i64 (c.undo r).2])
  | _ => False
noncomputable def X_cell_Undo : Env Try.prog := ⟨Try.f17.ntmps, TT, G16, [], Try.f17.results.toList, TT_ok, okG16, EsOk.nil _, mixed⟩
theorem k_cell_Undo : COk Try.prog 17 c_cell_Undo :=
  ctr_of_wk X_cell_Undo Try.func17 rfl (by kernel_rfl) rfl rfl fun args hp K hK => by
    unfold c_cell_Undo at hK
    split at hK
    · obtain ⟨c, hK, e0⟩ := iff_c1 hK
      obtain ⟨r, hK, e1⟩ := iff_r1 hK
      refine ⟨[Cel.sv c, Rul.sv r], [], _, by simp only [denL]; rw [e0, e1] <;> rfl, trivial, fun _ _ b hb => (by cases hb), hK, Nat.le_of_ble_eq_true rfl, ?_⟩
      clear hK
      clear e0 e1
      have hi : r.ok = true → r.inv.ok = true := Rul.inv_ok
      repeat' (first | (refine Wk.op ?_; intro K' hK') | (refine Wk.qop ?_; intro K' hK') | (refine hK' _ _ ?_; clear hK' K') | (refine hK' _ ?_; clear hK' K') | (refine hKT _ ?_; clear hKT hKF KT KF) | (refine hKF _ ?_; clear hKT hKF KT KF) | (refine Wk.cond ?_; intro KT KF hKT hKF) | (refine Wk.ret ?_) | (refine Wk.qnil ?_) | (refine Wk.draw ?_; intro K' hK') | (refine Wk.step rfl ?_) | (refine Wk.done ?_) | (with_reducible refine lexB_goal ?_; kernel_rfl) | (with_reducible refine lexT_goal ?_; kernel_rfl) | (refine And.intro ?_ ?_) | (intro hq; (try simp only [BF.H, Cel.eta, Rul.eta] at hq); (try (exfalso; first | omega | (simp [BF.b] at hq; done)))))
      all_goals (try simp only [Cel.eta, Rul.eta])
      all_goals (first | (with_reducible rfl) | exact trivial | assumption | exact Nat.le_of_ble_eq_true rfl | omega | skip)
      all_goals (first | (simp [Cel.eta, Rul.eta, den, denL, den_ofConst, BF.b, bfOf, Cel.sv, Rul.sv, Cel.undo, Cel.zero]; done) | (simp [Cel.eta, Rul.eta, den, denL, den_ofConst, BF.b, bfOf, Cel.sv, Rul.sv, Cel.undo, Cel.zero]; omega) | (simp [Cel.eta, Rul.eta, den, denL, den_ofConst, BF.b, bfOf, Cel.sv, Rul.sv, Cel.undo, Cel.zero]; (repeat' split) <;> omega) | (simp [Cel.eta, Rul.eta, den, denL, den_ofConst, BF.b, bfOf, Cel.sv, Rul.sv, Cel.undo, Cel.zero]; rw [Bool.eq_iff_iff]; (repeat' split) <;> simp <;> omega) | (simp [Cel.eta, Rul.eta, den, denL, den_ofConst, BF.b, bfOf, Cel.sv, Rul.sv, Cel.undo, Cel.zero, *]; done) | (simp [Cel.eta, Rul.eta, den, denL, den_ofConst, BF.b, bfOf, Cel.sv, Rul.sv, Cel.undo, Cel.zero, *]; omega))
    · exact hK.elim
def G17 : List (Nat × Ctr) := (17, c_cell_Undo) :: G16
theorem okG17 : GsOk Try.prog G17 := GsOk.cons k_cell_Undo okG16
def c_cell_Inverse : Ctr := fun args _ K => match args with
  | [x0] => r1 x0 fun r => K (.tup [Rul.sv r.inverse.1, .int .i64 r.inverse.2])
  | _ => False
noncomputable def X_cell_Inverse : Env Try.prog := ⟨Try.f19.ntmps, TT, G17, [], Try.f19.results.toList, TT_ok, okG17, EsOk.nil _, mixed⟩
theorem k_cell_Inverse : COk Try.prog 19 c_cell_Inverse :=
  ctr_of_wk X_cell_Inverse Try.func19 rfl (by kernel_rfl) rfl rfl fun args hp K hK => by
    unfold c_cell_Inverse at hK
    split at hK
    · obtain ⟨r, hK, e0⟩ := iff_r1 hK
      refine ⟨[Rul.sv r], [], _, by simp only [denL]; rw [e0] <;> rfl, trivial, fun _ _ b hb => (by cases hb), hK, Nat.le_of_ble_eq_true rfl, ?_⟩
      clear hK
      clear e0
      repeat' (first | (refine Wk.op ?_; intro K' hK') | (refine Wk.qop ?_; intro K' hK') | (refine hK' _ _ ?_; clear hK' K') | (refine hK' _ ?_; clear hK' K') | (refine hKT _ ?_; clear hKT hKF KT KF) | (refine hKF _ ?_; clear hKT hKF KT KF) | (refine Wk.cond ?_; intro KT KF hKT hKF) | (refine Wk.ret ?_) | (refine Wk.qnil ?_) | (refine Wk.draw ?_; intro K' hK') | (refine Wk.step rfl ?_) | (refine Wk.done ?_) | (with_reducible refine lexB_goal ?_; kernel_rfl) | (with_reducible refine lexT_goal ?_; kernel_rfl) | (refine And.intro ?_ ?_) | (intro hq; (try simp only [BF.H, Cel.eta, Rul.eta] at hq); (try (exfalso; first | omega | (simp [BF.b] at hq; done)))))
      all_goals (try simp only [Cel.eta, Rul.eta])
      all_goals (first | (with_reducible rfl) | exact trivial | assumption | exact Nat.le_of_ble_eq_true rfl | omega | skip)
      all_goals (first | (simp [Cel.eta, Rul.eta, den, denL, den_ofConst, BF.b, bfOf, Cel.sv, Rul.sv, Rul.inverse, Rul.zero]; done) | (simp [Cel.eta, Rul.eta, den, denL, den_ofConst, BF.b, bfOf, Cel.sv, Rul.sv, Rul.inverse, Rul.zero]; omega) | (simp [Cel.eta, Rul.eta, den, denL, den_ofConst, BF.b, bfOf, Cel.sv, Rul.sv, Rul.inverse, Rul.zero]; (repeat' split) <;> omega) | (simp [Cel.eta, Rul.eta, den, denL, den_ofConst, BF.b, bfOf, Cel.sv, Rul.sv, Rul.inverse, Rul.zero]; rw [Bool.eq_iff_iff]; (repeat' split) <;> simp <;> omega) | (simp [Cel.eta, Rul.eta, den, denL, den_ofConst, BF.b, bfOf, Cel.sv, Rul.sv, Rul.inverse, Rul.zero, *]; done) | (simp [Cel.eta, Rul.eta, den, denL, den_ofConst, BF.b, bfOf, Cel.sv, Rul.sv, Rul.inverse, Rul.zero, *]; omega))
    · exact hK.elim
def G18 : List (Nat × Ctr) := (19, c_cell_Inverse) :: G17
theorem okG18 : GsOk Try.prog G18 := GsOk.cons k_cell_Inverse okG17
def c_refA_size : Ctr := fun args _ K => match args with
  | [x0] => i1 x0 fun n => (-9223372036854775807 ≤ n ∧ n ≤ 9223372036854775807) ∧ K (.int .i64 (n.natAbs : Int))
  | _ => False
noncomputable def X_refA_size : Env Try.prog := ⟨Try.f97.ntmps, TT, G18, [], Try.f97.results.toList, TT_ok, okG18, EsOk.nil _, mixed⟩
theorem k_refA_size : COk Try.prog 97 c_refA_size :=
  ctr_of_wk X_refA_size Try.func97 rfl (by kernel_rfl) rfl rfl fun args hp K hK => by
    unfold c_refA_size at hK
    split at hK
    · obtain ⟨n, hK, e0⟩ := iff_i1 hK
      obtain ⟨hpre, hK⟩ := hK
      refine ⟨[.int .i64 n], [], _, by simp only [denL]; rw [e0] <;> rfl, trivial, fun _ _ b hb => (by cases hb), hK, Nat.le_of_ble_eq_true rfl, ?_⟩
      clear hK
      clear e0
      repeat' (first | (refine Wk.op ?_; intro K' hK') | (refine Wk.qop ?_; intro K' hK') | (refine hK' _ _ ?_; clear hK' K') | (refine hK' _ ?_; clear hK' K') | (refine hKT _ ?_; clear hKT hKF KT KF) | (refine hKF _ ?_; clear hKT hKF KT KF) | (refine Wk.cond ?_; intro KT KF hKT hKF) | (refine Wk.ret ?_) | (refine Wk.qnil ?_) | (refine Wk.draw ?_; intro K' hK') | (refine Wk.step rfl ?_) | (refine Wk.done ?_) | (with_reducible refine lexB_goal ?_; kernel_rfl) | (with_reducible refine lexT_goal ?_; kernel_rfl) | (refine And.intro ?_ ?_) | (intro hq; (try simp only [BF.H, Cel.eta, Rul.eta] at hq); (try (exfalso; first | omega | (simp [BF.b] at hq; done)))))
      all_goals (try simp only [Cel.eta, Rul.eta])
      all_goals (first | (with_reducible rfl) | exact trivial | assumption | exact Nat.le_of_ble_eq_true rfl | omega | skip)
      all_goals (first | (simp [Cel.eta, Rul.eta, den, denL, den_ofConst, BF.b, bfOf, Cel.sv, Rul.sv]; done) | (simp [Cel.eta, Rul.eta, den, denL, den_ofConst, BF.b, bfOf, Cel.sv, Rul.sv]; omega) | (simp [Cel.eta, Rul.eta, den, denL, den_ofConst, BF.b, bfOf, Cel.sv, Rul.sv]; (repeat' split) <;> omega) | (simp [Cel.eta, Rul.eta, den, denL, den_ofConst, BF.b, bfOf, Cel.sv, Rul.sv]; rw [Bool.eq_iff_iff]; (repeat' split) <;> simp <;> omega) | (simp [Cel.eta, Rul.eta, den, denL, den_ofConst, BF.b, bfOf, Cel.sv, Rul.sv, *]; done) | (simp [Cel.eta, Rul.eta, den, denL, den_ofConst, BF.b, bfOf, Cel.sv, Rul.sv, *]; omega))
    · exact hK.elim
def G19 : List (Nat × Ctr) := (97, c_refA_size) :: G18
theorem okG19 : GsOk Try.prog G19 := GsOk.cons k_refA_size okG18
def c_refA_least : Ctr := fun args _ K => match args with
  | [x0, x1] => i1 x0 fun a => i1 x1 fun b => K (.int .i64 (min a b))
  | _ => False
noncomputable def X_refA_least : Env Try.prog := ⟨Try.f90.ntmps, TT, G19, [], Try.f90.results.toList, TT_ok, okG19, EsOk.nil _, mixed⟩
theorem k_refA_least : COk Try.prog 90 c_refA_least :=
  ctr_of_wk X_refA_least Try.func90 rfl (by kernel_rfl) rfl rfl fun args hp K hK => by
    unfold c_refA_least at hK
    split at hK
    · obtain ⟨a, hK, e0⟩ := iff_i1 hK
      obtain ⟨b, hK, e1⟩ := iff_i1 hK
      refine ⟨[.int .i64 a, .int .i64 b], [], _, by simp only [denL]; rw [e0, e1] <;> rfl, trivial, fun _ _ b hb => (by cases hb), hK, Nat.le_of_ble_eq_true rfl, ?_⟩
      clear hK
      clear e0 e1
      repeat' (first | (refine Wk.op ?_; intro K' hK') | (refine Wk.qop ?_; intro K' hK') | (refine hK' _ _ ?_; clear hK' K') | (refine hK' _ ?_; clear hK' K') | (refine hKT _ ?_; clear hKT hKF KT KF) | (refine hKF _ ?_; clear hKT hKF KT KF) | (refine Wk.cond ?_; intro KT KF hKT hKF) | (refine Wk.ret ?_) | (refine Wk.qnil ?_) | (refine Wk.draw ?_; intro K' hK') | (refine Wk.step rfl ?_) | (refine Wk.done ?_) | (with_reducible refine lexB_goal ?_; kernel_rfl) | (with_reducible refine lexT_goal ?_; kernel_rfl) | (refine And.intro ?_ ?_) | (intro hq; (try simp only [BF.H, Cel.eta, Rul.eta] at hq); (try (exfalso; first | omega | (simp [BF.b] at hq; done)))))
      all_goals (try simp only [Cel.eta, Rul.eta])
      all_goals (first | (with_reducible rfl) | exact trivial | assumption | exact Nat.le_of_ble_eq_true rfl | omega | skip)
      all_goals (first | (simp [Cel.eta, Rul.eta, den, denL, den_ofConst, BF.b, bfOf, Cel.sv, Rul.sv]; done) | (simp [Cel.eta, Rul.eta, den, denL, den_ofConst, BF.b, bfOf, Cel.sv, Rul.sv]; omega) | (simp [Cel.eta, Rul.eta, den, denL, den_ofConst, BF.b, bfOf, Cel.sv, Rul.sv]; (repeat' split) <;> omega) | (simp [Cel.eta, Rul.eta, den, denL, den_ofConst, BF.b, bfOf, Cel.sv, Rul.sv]; rw [Bool.eq_iff_iff]; (repeat' split) <;> simp <;> omega) | (simp [Cel.eta, Rul.eta, den, denL, den_ofConst, BF.b, bfOf, Cel.sv, Rul.sv, *]; done) | (simp [Cel.eta, Rul.eta, den, denL, den_ofConst, BF.b, bfOf, Cel.sv, Rul.sv, *]; omega))
    · exact hK.elim
def G20 : List (Nat × Ctr) := (90, c_refA_least) :: G19
theorem okG20 : GsOk Try.prog G20 := GsOk.cons k_refA_least okG19
def c_refA_of : Ctr := fun args _ K => match args with
  | [x0] => c1 x0 fun c => (c.ok = true) ∧ K (Cel.sv c.cls)
  | _ => False
noncomputable def X_refA_of : Env Try.prog := ⟨Try.f83.ntmps, TT, G20, [], Try.f83.results.toList, TT_ok, okG20, EsOk.nil _, mixed⟩
theorem k_refA_of : COk Try.prog 83 c_refA_of :=
  ctr_of_wk X_refA_of Try.func83 rfl (by kernel_rfl) rfl rfl fun args hp K hK => by
    unfold c_refA_of at hK
    split at hK
    · obtain ⟨c, hK, e0⟩ := iff_c1 hK
      obtain ⟨hpre, hK⟩ := hK
      have hf := Cel.facts hpre
      have hd : (c.e + c.n + c.w + c.s - ((c.e - c.w).natAbs : Int) - ((c.n - c.s).natAbs : Int)).tdiv 2 = c.h + c.v := by
        rw [Int.tdiv_eq_ediv_of_nonneg (by omega)]; omega
      refine ⟨[Cel.sv c], [], _, by simp only [denL]; rw [e0] <;> rfl, trivial, fun _ _ b hb => (by cases hb), hK, Nat.le_of_ble_eq_true rfl, ?_⟩
      clear hK
      clear e0
      repeat' (first | (refine Wk.op ?_; intro K' hK') | (refine Wk.qop ?_; intro K' hK') | (refine hK' _ _ ?_; clear hK' K') | (refine hK' _ ?_; clear hK' K') | (refine hKT _ ?_; clear hKT hKF KT KF) | (refine hKF _ ?_; clear hKT hKF KT KF) | (refine Wk.cond ?_; intro KT KF hKT hKF) | (refine Wk.ret ?_) | (refine Wk.qnil ?_) | (refine Wk.draw ?_; intro K' hK') | (refine Wk.step rfl ?_) | (refine Wk.done ?_) | (with_reducible refine lexB_goal ?_; kernel_rfl) | (with_reducible refine lexT_goal ?_; kernel_rfl) | (refine And.intro ?_ ?_) | (intro hq; (try simp only [BF.H, Cel.eta, Rul.eta] at hq); (try (exfalso; first | omega | (simp [BF.b] at hq; done)))))
      all_goals (try simp only [Cel.eta, Rul.eta])
      all_goals (first | (with_reducible rfl) | exact trivial | assumption | exact Nat.le_of_ble_eq_true rfl | omega | skip)
      all_goals (first | (simp [Cel.eta, Rul.eta, den, denL, den_ofConst, BF.b, bfOf, Cel.sv, Rul.sv, Cel.cls]; done) | (simp [Cel.eta, Rul.eta, den, denL, den_ofConst, BF.b, bfOf, Cel.sv, Rul.sv, Cel.cls]; omega) | (simp [Cel.eta, Rul.eta, den, denL, den_ofConst, BF.b, bfOf, Cel.sv, Rul.sv, Cel.cls]; (repeat' split) <;> omega) | (simp [Cel.eta, Rul.eta, den, denL, den_ofConst, BF.b, bfOf, Cel.sv, Rul.sv, Cel.cls]; rw [Bool.eq_iff_iff]; (repeat' split) <;> simp <;> omega) | (simp [Cel.eta, Rul.eta, den, denL, den_ofConst, BF.b, bfOf, Cel.sv, Rul.sv, Cel.cls, *]; done) | (simp [Cel.eta, Rul.eta, den, denL, den_ofConst, BF.b, bfOf, Cel.sv, Rul.sv, Cel.cls, *]; omega))
    · exact hK.elim
def G21 : List (Nat × Ctr) := (83, c_refA_of) :: G20
theorem okG21 : GsOk Try.prog G21 := GsOk.cons k_refA_of okG20
def c_refA_class_at : Ctr := fun args _ K => match args with
  | [x0, x1] => c1 x0 fun x => i1 x1 fun p => (-1000000000 ≤ x.n ∧ x.n ≤ 1000000000 ∧ -1000000000 ≤ x.w ∧ x.w ≤ 1000000000 ∧ 0 ≤ x.s ∧ x.s ≤ 1000000000 ∧ 0 ≤ p ∧ p ≤ 1000000000) ∧ K (Cel.sv (x.clsAt p))
  | _ => False
set_option maxHeartbeats 800000 in
theorem w_refA_class_at (x : Cel) (p : Int) (w : World) (hpre : -1000000000 ≤ x.n ∧ x.n ≤ 1000000000 ∧ -1000000000 ≤ x.w ∧ x.w ≤ 1000000000 ∧ 0 ≤ x.s ∧ x.s ≤ 1000000000 ∧ 0 ≤ p ∧ p ≤ 1000000000) :
    Calls Try.prog 96 #[den (Cel.sv x), den (.int .i64 p)] w fun e w' => e = .returned (den (Cel.sv (x.clsAt p))) ∧ Below w.heap.size w w' := by
  obtain ⟨a, b, c, d⟩ := x
  simp only at hpre ⊢
  obtain ⟨h1, h2, h3, h4, h5, h6, h7, h8⟩ := hpre
  simp only [den, denL, Cel.sv]
  go_enter Try.func96, Try.ntmps96
  go_wp2
  go_region
  all_goals go_wp2
  all_goals (refine bodyPost_ret (v := den (Cel.sv (Cel.clsAt ⟨a, b, c, d⟩ p))) ?_ rfl ⟨by simp only [den, denL, Cel.sv], ((((Below.refl _ _).alloc (Nat.le_refl _) _).alloc (by simp) _).alloc (by simp; omega) _).drew⟩)
  all_goals (simp [results, Try.results96, go_sem, den, denL, Cel.sv, Cel.clsAt]; omega)
theorem k_refA_class_at : COk Try.prog 96 c_refA_class_at := ⟨⟨_, Try.func96, by kernel_rfl, rfl⟩, fun args hp K hK => by
    unfold c_refA_class_at at hK
    split at hK
    · obtain ⟨x, hK, e0⟩ := iff_c1 hK
      obtain ⟨p, hK, e1⟩ := iff_i1 hK
      obtain ⟨hpre, hK⟩ := hK
      refine ⟨_, hK, fun w0 w hw => ?_⟩
      simp only [denL, e0, e1]
      exact w_refA_class_at x p w hpre
    · exact hK.elim⟩
def G22 : List (Nat × Ctr) := (96, c_refA_class_at) :: G21
theorem okG22 : GsOk Try.prog G22 := GsOk.cons k_refA_class_at okG21
def c_refA_modulo : Ctr := fun args _ K => match args with
  | [x0, x1] => i1 x0 fun a => i1 x1 fun b => (0 < b ∧ b ≤ 9000000000 ∧ -9000000000000000000 ≤ a ∧ a ≤ 9000000000000000000) ∧ K (.int .i64 (a % b))
  | _ => False
noncomputable def X_refA_modulo : Env Try.prog := ⟨Try.f150.ntmps, TT, G22, [], Try.f150.results.toList, TT_ok, okG22, EsOk.nil _, mixed⟩
theorem k_refA_modulo : COk Try.prog 150 c_refA_modulo :=
  ctr_of_wk X_refA_modulo Try.func150 rfl (by kernel_rfl) rfl rfl fun args hp K hK => by
    unfold c_refA_modulo at hK
    split at hK
    · obtain ⟨a, hK, e0⟩ := iff_i1 hK
      obtain ⟨b, hK, e1⟩ := iff_i1 hK
      obtain ⟨hpre, hK⟩ := hK
      have ht := adj_tmod (a := a) (b := b) (by omega)
      have h1 := Int.emod_nonneg a (show b ≠ 0 by omega)
      have h2 := Int.emod_lt_of_pos a (show 0 < b by omega)
      have h3 : a.tmod b = a % b ∨ a.tmod b + b = a % b ∧ a.tmod b < 0 := by split at ht <;> omega
      refine ⟨[.int .i64 a, .int .i64 b], [], _, by simp only [denL]; rw [e0, e1] <;> rfl, trivial, fun _ _ b hb => (by cases hb), hK, Nat.le_of_ble_eq_true rfl, ?_⟩
      clear hK
      clear e0 e1
      repeat' (first | (refine Wk.op ?_; intro K' hK') | (refine Wk.qop ?_; intro K' hK') | (refine hK' _ _ ?_; clear hK' K') | (refine hK' _ ?_; clear hK' K') | (refine hKT _ ?_; clear hKT hKF KT KF) | (refine hKF _ ?_; clear hKT hKF KT KF) | (refine Wk.cond ?_; intro KT KF hKT hKF) | (refine Wk.ret ?_) | (refine Wk.qnil ?_) | (refine Wk.draw ?_; intro K' hK') | (refine Wk.step rfl ?_) | (refine Wk.done ?_) | (with_reducible refine lexB_goal ?_; kernel_rfl) | (with_reducible refine lexT_goal ?_; kernel_rfl) | (refine And.intro ?_ ?_) | (intro hq; (try simp only [BF.H, Cel.eta, Rul.eta] at hq); (try (exfalso; first | omega | (simp [BF.b] at hq; done)))))
      all_goals (try simp only [Cel.eta, Rul.eta])
      all_goals (first | (with_reducible rfl) | exact trivial | assumption | exact Nat.le_of_ble_eq_true rfl | omega | skip)
      all_goals (simp [den, denL]; split at ht <;> omega)
    · exact hK.elim
def G23 : List (Nat × Ctr) := (150, c_refA_modulo) :: G22
theorem okG23 : GsOk Try.prog G23 := GsOk.cons k_refA_modulo okG22
def c_refA_Turn : Ctr := fun args _ K => match args with
  | [x0, x1, x2] => r1 x0 fun r => i1 x1 fun h => i1 x2 fun p => (r.ok = true ∧ 0 ≤ h ∧ h ≤ p ∧ p ≤ 1000000000) ∧ K (.int .i64 (r.turn h p))
  | _ => False
noncomputable def X_refA_Turn : Env Try.prog := ⟨Try.f124.ntmps, TT, G23, [], Try.f124.results.toList, TT_ok, okG23, EsOk.nil _, mixed⟩
theorem k_refA_Turn : COk Try.prog 124 c_refA_Turn :=
  ctr_of_wk X_refA_Turn Try.func124 rfl (by kernel_rfl) rfl rfl fun args hp K hK => by
    unfold c_refA_Turn at hK
    split at hK
    · obtain ⟨r, hK, e0⟩ := iff_r1 hK
      obtain ⟨h, hK, e1⟩ := iff_i1 hK
      obtain ⟨p, hK, e2⟩ := iff_i1 hK
      obtain ⟨hpre, hK⟩ := hK
      have hr := Rul.ok_iff.1 hpre.1
      refine ⟨[Rul.sv r, .int .i64 h, .int .i64 p], [], _, by simp only [denL]; rw [e0, e1, e2] <;> rfl, trivial, fun _ _ b hb => (by cases hb), hK, Nat.le_of_ble_eq_true rfl, ?_⟩
      clear hK
      clear e0 e1 e2
      repeat' (first | (refine Wk.op ?_; intro K' hK') | (refine Wk.qop ?_; intro K' hK') | (refine hK' _ _ ?_; clear hK' K') | (refine hK' _ ?_; clear hK' K') | (refine hKT _ ?_; clear hKT hKF KT KF) | (refine hKF _ ?_; clear hKT hKF KT KF) | (refine Wk.cond ?_; intro KT KF hKT hKF) | (refine Wk.ret ?_) | (refine Wk.qnil ?_) | (refine Wk.draw ?_; intro K' hK') | (refine Wk.step rfl ?_) | (refine Wk.done ?_) | (with_reducible refine lexB_goal ?_; kernel_rfl) | (with_reducible refine lexT_goal ?_; kernel_rfl) | (refine And.intro ?_ ?_) | (intro hq; (try simp only [BF.H, Cel.eta, Rul.eta] at hq); (try (exfalso; first | omega | (simp [BF.b] at hq; done)))))
      all_goals (try simp only [Cel.eta, Rul.eta])
      all_goals (first | (with_reducible rfl) | exact trivial | assumption | exact Nat.le_of_ble_eq_true rfl | omega | skip)
      all_goals (first | (simp [Cel.eta, Rul.eta, den, denL, den_ofConst, BF.b, bfOf, Cel.sv, Rul.sv, Rul.turn]; done) | (simp [Cel.eta, Rul.eta, den, denL, den_ofConst, BF.b, bfOf, Cel.sv, Rul.sv, Rul.turn]; omega) | (simp [Cel.eta, Rul.eta, den, denL, den_ofConst, BF.b, bfOf, Cel.sv, Rul.sv, Rul.turn]; (repeat' split) <;> omega) | (simp [Cel.eta, Rul.eta, den, denL, den_ofConst, BF.b, bfOf, Cel.sv, Rul.sv, Rul.turn]; rw [Bool.eq_iff_iff]; (repeat' split) <;> simp <;> omega) | (simp [Cel.eta, Rul.eta, den, denL, den_ofConst, BF.b, bfOf, Cel.sv, Rul.sv, Rul.turn, *]; done) | (simp [Cel.eta, Rul.eta, den, denL, den_ofConst, BF.b, bfOf, Cel.sv, Rul.sv, Rul.turn, *]; omega))
    · exact hK.elim
def G24 : List (Nat × Ctr) := (124, c_refA_Turn) :: G23
theorem okG24 : GsOk Try.prog G24 := GsOk.cons k_refA_Turn okG23
def c_refA_After : Ctr := fun args _ K => match args with
  | [x0, x1] => c1 x0 fun c => r1 x1 fun r => (c.ok = true ∧ r.ok = true) ∧ K (Cel.sv (c.after r))
  | _ => False
noncomputable def X_refA_After : Env Try.prog := ⟨Try.f79.ntmps, TT, G24, [], Try.f79.results.toList, TT_ok, okG24, EsOk.nil _, mixed⟩
theorem k_refA_After : COk Try.prog 79 c_refA_After :=
  ctr_of_wk X_refA_After Try.func79 rfl (by kernel_rfl) rfl rfl fun args hp K hK => by
    unfold c_refA_After at hK
    split at hK
    · obtain ⟨c, hK, e0⟩ := iff_c1 hK
      obtain ⟨r, hK, e1⟩ := iff_r1 hK
      obtain ⟨hpre, hK⟩ := hK
      have hf := Cel.facts hpre.1
      have ht := Cel.turn_range hpre.1 hpre.2
      have hc := Cel.clsAt_cls (p := r.turn c.h (c.h + c.v)) hpre.1
      have hm : min c.e c.w = c.h := rfl
      refine ⟨[Cel.sv c, Rul.sv r], [], _, by simp only [denL]; rw [e0, e1] <;> rfl, trivial, fun _ _ b hb => (by cases hb), hK, Nat.le_of_ble_eq_true rfl, ?_⟩
      clear hK
      clear e0 e1
      repeat' (first | (refine Wk.op ?_; intro K' hK') | (refine Wk.qop ?_; intro K' hK') | (refine hK' _ _ ?_; clear hK' K') | (refine hK' _ ?_; clear hK' K') | (refine hKT _ ?_; clear hKT hKF KT KF) | (refine hKF _ ?_; clear hKT hKF KT KF) | (refine Wk.cond ?_; intro KT KF hKT hKF) | (refine Wk.ret ?_) | (refine Wk.qnil ?_) | (refine Wk.draw ?_; intro K' hK') | (refine Wk.step rfl ?_) | (refine Wk.done ?_) | (with_reducible refine lexB_goal ?_; kernel_rfl) | (with_reducible refine lexT_goal ?_; kernel_rfl) | (refine And.intro ?_ ?_) | (intro hq; (try simp only [BF.H, Cel.eta, Rul.eta] at hq); (try (exfalso; first | omega | (simp [BF.b] at hq; done)))))
      all_goals (try simp only [Cel.eta, Rul.eta])
      all_goals (first | (with_reducible rfl) | exact trivial | assumption | exact Nat.le_of_ble_eq_true rfl | omega | skip)
      all_goals (first | exact hpre.1 | exact hpre.2 | (simp only [Cel.cls, hm]; omega) | (simp only [hm, show c.cls.s = c.h + c.v from rfl]; omega) | (show den (Cel.sv (c.cls.clsAt (r.turn (min c.e c.w) c.cls.s))) = den (Cel.sv (c.after r)); rw [hm, show c.cls.s = c.h + c.v from rfl, hc]; rfl))
    · exact hK.elim
def G25 : List (Nat × Ctr) := (79, c_refA_After) :: G24
theorem okG25 : GsOk Try.prog G25 := GsOk.cons k_refA_After okG24
def c_refA_Opposite : Ctr := fun args _ K => match args with
  | [x0] => r1 x0 fun r => (r.ok = true) ∧ K (Rul.sv r.inv)
  | _ => False
noncomputable def X_refA_Opposite : Env Try.prog := ⟨Try.f81.ntmps, TT, G25, [], Try.f81.results.toList, TT_ok, okG25, EsOk.nil _, mixed⟩
theorem k_refA_Opposite : COk Try.prog 81 c_refA_Opposite :=
  ctr_of_wk X_refA_Opposite Try.func81 rfl (by kernel_rfl) rfl rfl fun args hp K hK => by
    unfold c_refA_Opposite at hK
    split at hK
    · obtain ⟨r, hK, e0⟩ := iff_r1 hK
      obtain ⟨hpre, hK⟩ := hK
      have hr := Rul.ok_iff.1 hpre
      refine ⟨[Rul.sv r], [], _, by simp only [denL]; rw [e0] <;> rfl, trivial, fun _ _ b hb => (by cases hb), hK, Nat.le_of_ble_eq_true rfl, ?_⟩
      clear hK
      clear e0
      repeat' (first | (refine Wk.op ?_; intro K' hK') | (refine Wk.qop ?_; intro K' hK') | (refine hK' _ _ ?_; clear hK' K') | (refine hK' _ ?_; clear hK' K') | (refine hKT _ ?_; clear hKT hKF KT KF) | (refine hKF _ ?_; clear hKT hKF KT KF) | (refine Wk.cond ?_; intro KT KF hKT hKF) | (refine Wk.ret ?_) | (refine Wk.qnil ?_) | (refine Wk.draw ?_; intro K' hK') | (refine Wk.step rfl ?_) | (refine Wk.done ?_) | (with_reducible refine lexB_goal ?_; kernel_rfl) | (with_reducible refine lexT_goal ?_; kernel_rfl) | (refine And.intro ?_ ?_) | (intro hq; (try simp only [BF.H, Cel.eta, Rul.eta] at hq); (try (exfalso; first | omega | (simp [BF.b] at hq; done)))))
      all_goals (try simp only [Cel.eta, Rul.eta])
      all_goals (first | (with_reducible rfl) | exact trivial | assumption | exact Nat.le_of_ble_eq_true rfl | omega | skip)
      all_goals (first | (simp [Cel.eta, Rul.eta, den, denL, den_ofConst, BF.b, bfOf, Cel.sv, Rul.sv, Rul.inv]; done) | (simp [Cel.eta, Rul.eta, den, denL, den_ofConst, BF.b, bfOf, Cel.sv, Rul.sv, Rul.inv]; omega) | (simp [Cel.eta, Rul.eta, den, denL, den_ofConst, BF.b, bfOf, Cel.sv, Rul.sv, Rul.inv]; (repeat' split) <;> omega) | (simp [Cel.eta, Rul.eta, den, denL, den_ofConst, BF.b, bfOf, Cel.sv, Rul.sv, Rul.inv]; rw [Bool.eq_iff_iff]; (repeat' split) <;> simp <;> omega) | (simp [Cel.eta, Rul.eta, den, denL, den_ofConst, BF.b, bfOf, Cel.sv, Rul.sv, Rul.inv, *]; done) | (simp [Cel.eta, Rul.eta, den, denL, den_ofConst, BF.b, bfOf, Cel.sv, Rul.sv, Rul.inv, *]; omega))
    · exact hK.elim
def G26 : List (Nat × Ctr) := (81, c_refA_Opposite) :: G25
theorem okG26 : GsOk Try.prog G26 := GsOk.cons k_refA_Opposite okG25
def c_refA_Collide : Ctr := fun args _ K => match args with
  | [x0, x1] => c1 x0 fun c => r1 x1 fun r => K (.tup [Cel.sv (c.collide r).1, .int .i64 (c.collide r).2])
  | _ => False
noncomputable def X_refA_Collide : Env Try.prog := ⟨Try.f16.ntmps, TT, G26, [], Try.f16.results.toList, TT_ok, okG26, EsOk.nil _, mixed⟩
theorem k_refA_Collide : COk Try.prog 16 c_refA_Collide :=
  ctr_of_wk X_refA_Collide Try.func16 rfl (by kernel_rfl) rfl rfl fun args hp K hK => by
    unfold c_refA_Collide at hK
    split at hK
    · obtain ⟨c, hK, e0⟩ := iff_c1 hK
      obtain ⟨r, hK, e1⟩ := iff_r1 hK
      refine ⟨[Cel.sv c, Rul.sv r], [], _, by simp only [denL]; rw [e0, e1] <;> rfl, trivial, fun _ _ b hb => (by cases hb), hK, Nat.le_of_ble_eq_true rfl, ?_⟩
      clear hK
      clear e0 e1
      repeat' (first | (refine Wk.op ?_; intro K' hK') | (refine Wk.qop ?_; intro K' hK') | (refine hK' _ _ ?_; clear hK' K') | (refine hK' _ ?_; clear hK' K') | (refine hKT _ ?_; clear hKT hKF KT KF) | (refine hKF _ ?_; clear hKT hKF KT KF) | (refine Wk.cond ?_; intro KT KF hKT hKF) | (refine Wk.ret ?_) | (refine Wk.qnil ?_) | (refine Wk.draw ?_; intro K' hK') | (refine Wk.step rfl ?_) | (refine Wk.done ?_) | (with_reducible refine lexB_goal ?_; kernel_rfl) | (with_reducible refine lexT_goal ?_; kernel_rfl) | (refine And.intro ?_ ?_) | (intro hq; (try simp only [BF.H, Cel.eta, Rul.eta] at hq); (try (exfalso; first | omega | (simp [BF.b] at hq; done)))))
      all_goals (try simp only [Cel.eta, Rul.eta])
      all_goals (first | (with_reducible rfl) | exact trivial | assumption | exact Nat.le_of_ble_eq_true rfl | omega | skip)
      all_goals (first | (simp [Cel.eta, Rul.eta, den, denL, den_ofConst, BF.b, bfOf, Cel.sv, Rul.sv, Cel.collide, Cel.zero]; done) | (simp [Cel.eta, Rul.eta, den, denL, den_ofConst, BF.b, bfOf, Cel.sv, Rul.sv, Cel.collide, Cel.zero]; omega) | (simp [Cel.eta, Rul.eta, den, denL, den_ofConst, BF.b, bfOf, Cel.sv, Rul.sv, Cel.collide, Cel.zero]; (repeat' split) <;> omega) | (simp [Cel.eta, Rul.eta, den, denL, den_ofConst, BF.b, bfOf, Cel.sv, Rul.sv, Cel.collide, Cel.zero]; rw [Bool.eq_iff_iff]; (repeat' split) <;> simp <;> omega) | (simp [Cel.eta, Rul.eta, den, denL, den_ofConst, BF.b, bfOf, Cel.sv, Rul.sv, Cel.collide, Cel.zero, *]; done) | (simp [Cel.eta, Rul.eta, den, denL, den_ofConst, BF.b, bfOf, Cel.sv, Rul.sv, Cel.collide, Cel.zero, *]; omega))
    · exact hK.elim
def G27 : List (Nat × Ctr) := (16, c_refA_Collide) :: G26
theorem okG27 : GsOk Try.prog G27 := GsOk.cons k_refA_Collide okG26
def c_refA_Undo : Ctr := fun args _ K => match args with
  | [x0, x1] => c1 x0 fun c => r1 x1 fun r => K (.tup [Cel.sv (c.undo r).1, .int .i64 (c.undo r).2])
  | _ => False
noncomputable def X_refA_Undo : Env Try.prog := ⟨Try.f18.ntmps, TT, G27, [], Try.f18.results.toList, TT_ok, okG27, EsOk.nil _, mixed⟩
theorem k_refA_Undo : COk Try.prog 18 c_refA_Undo :=
  ctr_of_wk X_refA_Undo Try.func18 rfl (by kernel_rfl) rfl rfl fun args hp K hK => by
    unfold c_refA_Undo at hK
    split at hK
    · obtain ⟨c, hK, e0⟩ := iff_c1 hK
      obtain ⟨r, hK, e1⟩ := iff_r1 hK
      refine ⟨[Cel.sv c, Rul.sv r], [], _, by simp only [denL]; rw [e0, e1] <;> rfl, trivial, fun _ _ b hb => (by cases hb), hK, Nat.le_of_ble_eq_true rfl, ?_⟩
      clear hK
      clear e0 e1
      have hi : r.ok = true → r.inv.ok = true := Rul.inv_ok
      repeat' (first | (refine Wk.op ?_; intro K' hK') | (refine Wk.qop ?_; intro K' hK') | (refine hK' _ _ ?_; clear hK' K') | (refine hK' _ ?_; clear hK' K') | (refine hKT _ ?_; clear hKT hKF KT KF) | (refine hKF _ ?_; clear hKT hKF KT KF) | (refine Wk.cond ?_; intro KT KF hKT hKF) | (refine Wk.ret ?_) | (refine Wk.qnil ?_) | (refine Wk.draw ?_; intro K' hK') | (refine Wk.step rfl ?_) | (refine Wk.done ?_) | (with_reducible refine lexB_goal ?_; kernel_rfl) | (with_reducible refine lexT_goal ?_; kernel_rfl) | (refine And.intro ?_ ?_) | (intro hq; (try simp only [BF.H, Cel.eta, Rul.eta] at hq); (try (exfalso; first | omega | (simp [BF.b] at hq; done)))))
      all_goals (try simp only [Cel.eta, Rul.eta])
      all_goals (first | (with_reducible rfl) | exact trivial | assumption | exact Nat.le_of_ble_eq_true rfl | omega | skip)
      all_goals (first | (simp [Cel.eta, Rul.eta, den, denL, den_ofConst, BF.b, bfOf, Cel.sv, Rul.sv, Cel.undo, Cel.zero]; done) | (simp [Cel.eta, Rul.eta, den, denL, den_ofConst, BF.b, bfOf, Cel.sv, Rul.sv, Cel.undo, Cel.zero]; omega) | (simp [Cel.eta, Rul.eta, den, denL, den_ofConst, BF.b, bfOf, Cel.sv, Rul.sv, Cel.undo, Cel.zero]; (repeat' split) <;> omega) | (simp [Cel.eta, Rul.eta, den, denL, den_ofConst, BF.b, bfOf, Cel.sv, Rul.sv, Cel.undo, Cel.zero]; rw [Bool.eq_iff_iff]; (repeat' split) <;> simp <;> omega) | (simp [Cel.eta, Rul.eta, den, denL, den_ofConst, BF.b, bfOf, Cel.sv, Rul.sv, Cel.undo, Cel.zero, *]; done) | (simp [Cel.eta, Rul.eta, den, denL, den_ofConst, BF.b, bfOf, Cel.sv, Rul.sv, Cel.undo, Cel.zero, *]; omega))
    · exact hK.elim
def G28 : List (Nat × Ctr) := (18, c_refA_Undo) :: G27
theorem okG28 : GsOk Try.prog G28 := GsOk.cons k_refA_Undo okG27
def c_refA_Inverse : Ctr := fun args _ K => match args with
  | [x0] => r1 x0 fun r => K (.tup [Rul.sv r.inverse.1, .int .i64 r.inverse.2])
  | _ => False
noncomputable def X_refA_Inverse : Env Try.prog := ⟨Try.f20.ntmps, TT, G28, [], Try.f20.results.toList, TT_ok, okG28, EsOk.nil _, mixed⟩
theorem k_refA_Inverse : COk Try.prog 20 c_refA_Inverse :=
  ctr_of_wk X_refA_Inverse Try.func20 rfl (by kernel_rfl) rfl rfl fun args hp K hK => by
    unfold c_refA_Inverse at hK
    split at hK
    · obtain ⟨r, hK, e0⟩ := iff_r1 hK
      refine ⟨[Rul.sv r], [], _, by simp only [denL]; rw [e0] <;> rfl, trivial, fun _ _ b hb => (by cases hb), hK, Nat.le_of_ble_eq_true rfl, ?_⟩
      clear hK
      clear e0
      repeat' (first | (refine Wk.op ?_; intro K' hK') | (refine Wk.qop ?_; intro K' hK') | (refine hK' _ _ ?_; clear hK' K') | (refine hK' _ ?_; clear hK' K') | (refine hKT _ ?_; clear hKT hKF KT KF) | (refine hKF _ ?_; clear hKT hKF KT KF) | (refine Wk.cond ?_; intro KT KF hKT hKF) | (refine Wk.ret ?_) | (refine Wk.qnil ?_) | (refine Wk.draw ?_; intro K' hK') | (refine Wk.step rfl ?_) | (refine Wk.done ?_) | (with_reducible refine lexB_goal ?_; kernel_rfl) | (with_reducible refine lexT_goal ?_; kernel_rfl) | (refine And.intro ?_ ?_) | (intro hq; (try simp only [BF.H, Cel.eta, Rul.eta] at hq); (try (exfalso; first | omega | (simp [BF.b] at hq; done)))))
      all_goals (try simp only [Cel.eta, Rul.eta])
      all_goals (first | (with_reducible rfl) | exact trivial | assumption | exact Nat.le_of_ble_eq_true rfl | omega | skip)
      all_goals (first | (simp [Cel.eta, Rul.eta, den, denL, den_ofConst, BF.b, bfOf, Cel.sv, Rul.sv, Rul.inverse, Rul.zero]; done) | (simp [Cel.eta, Rul.eta, den, denL, den_ofConst, BF.b, bfOf, Cel.sv, Rul.sv, Rul.inverse, Rul.zero]; omega) | (simp [Cel.eta, Rul.eta, den, denL, den_ofConst, BF.b, bfOf, Cel.sv, Rul.sv, Rul.inverse, Rul.zero]; (repeat' split) <;> omega) | (simp [Cel.eta, Rul.eta, den, denL, den_ofConst, BF.b, bfOf, Cel.sv, Rul.sv, Rul.inverse, Rul.zero]; rw [Bool.eq_iff_iff]; (repeat' split) <;> simp <;> omega) | (simp [Cel.eta, Rul.eta, den, denL, den_ofConst, BF.b, bfOf, Cel.sv, Rul.sv, Rul.inverse, Rul.zero, *]; done) | (simp [Cel.eta, Rul.eta, den, denL, den_ofConst, BF.b, bfOf, Cel.sv, Rul.sv, Rul.inverse, Rul.zero, *]; omega))
    · exact hK.elim
def G29 : List (Nat × Ctr) := (20, c_refA_Inverse) :: G28
theorem okG29 : GsOk Try.prog G29 := GsOk.cons k_refA_Inverse okG28
def c_lawA_awake : Ctr := fun args _ K => match args with
  | [] => K (.bool .tt)
  | _ => False
noncomputable def X_lawA_awake : Env Try.prog := ⟨Try.f21.ntmps, TT, G29, [], Try.f21.results.toList, TT_ok, okG29, EsOk.nil _, mixed⟩
theorem k_lawA_awake : COk Try.prog 21 c_lawA_awake :=
  ctr_of_wk X_lawA_awake Try.func21 rfl (by kernel_rfl) rfl rfl fun args hp K hK => by
    unfold c_lawA_awake at hK
    split at hK
    · refine ⟨[], [], _, by rfl, trivial, fun _ _ b hb => (by cases hb), hK, Nat.le_of_ble_eq_true rfl, ?_⟩
      clear hK
      have h1 : Cel.collide ⟨5, 2, 3, 4⟩ ⟨1, 0⟩ = (⟨4, 3, 2, 5⟩, 0) := by decide
      have h2 : Cel.collide ⟨5, 2, 3, 4⟩ ⟨2, 4⟩ = (⟨3, 4, 1, 6⟩, 0) := by decide
      repeat' (first | (refine Wk.op ?_; intro K' hK') | (refine Wk.qop ?_; intro K' hK') | (refine hK' _ _ ?_; clear hK' K') | (refine hK' _ ?_; clear hK' K') | (refine hKT _ ?_; clear hKT hKF KT KF) | (refine hKF _ ?_; clear hKT hKF KT KF) | (refine Wk.cond ?_; intro KT KF hKT hKF) | (refine Wk.ret ?_) | (refine Wk.qnil ?_) | (refine Wk.draw ?_; intro K' hK') | (refine Wk.step rfl ?_) | (refine Wk.done ?_) | (with_reducible refine lexB_goal ?_; kernel_rfl) | (with_reducible refine lexT_goal ?_; kernel_rfl) | (refine And.intro ?_ ?_) | (intro hq; (try simp only [BF.H, Cel.eta, Rul.eta] at hq); (try simp only [h1, h2] at hq); (try (exfalso; first | omega | (simp [BF.b] at hq; done)))))
      all_goals (try simp only [Cel.eta, Rul.eta])
      all_goals (first | (with_reducible rfl) | exact trivial | assumption | exact Nat.le_of_ble_eq_true rfl | omega | skip)
      all_goals (first | (simp [Cel.eta, Rul.eta, den, denL, den_ofConst, BF.b, bfOf, Cel.sv, Rul.sv, h1, h2]; done) | (simp [Cel.eta, Rul.eta, den, denL, den_ofConst, BF.b, bfOf, Cel.sv, Rul.sv, h1, h2]; omega) | (simp [Cel.eta, Rul.eta, den, denL, den_ofConst, BF.b, bfOf, Cel.sv, Rul.sv, h1, h2]; (repeat' split) <;> omega) | (simp [Cel.eta, Rul.eta, den, denL, den_ofConst, BF.b, bfOf, Cel.sv, Rul.sv, h1, h2]; rw [Bool.eq_iff_iff]; (repeat' split) <;> simp <;> omega) | (simp [Cel.eta, Rul.eta, den, denL, den_ofConst, BF.b, bfOf, Cel.sv, Rul.sv, h1, h2, *]; done) | (simp [Cel.eta, Rul.eta, den, denL, den_ofConst, BF.b, bfOf, Cel.sv, Rul.sv, h1, h2, *]; omega))
    · exact hK.elim
def G30 : List (Nat × Ctr) := (21, c_lawA_awake) :: G29
theorem okG30 : GsOk Try.prog G30 := GsOk.cons k_lawA_awake okG29
def c_lawA_CellCollides : Ctr := fun args _ K => match args with
  | [x0, x1] => c1 x0 fun c => r1 x1 fun r => K (.bool .tt)
  | _ => False
noncomputable def X_lawA_CellCollides : Env Try.prog := ⟨Try.f3.ntmps, TT, G30, [], Try.f3.results.toList, TT_ok, okG30, EsOk.nil _, mixed⟩
theorem k_lawA_CellCollides : COk Try.prog 3 c_lawA_CellCollides :=
  ctr_of_wk X_lawA_CellCollides Try.func3 rfl (by kernel_rfl) rfl rfl fun args hp K hK => by
    unfold c_lawA_CellCollides at hK
    split at hK
    · obtain ⟨c, hK, e0⟩ := iff_c1 hK
      obtain ⟨r, hK, e1⟩ := iff_r1 hK
      refine ⟨[Cel.sv c, Rul.sv r], [], _, by simp only [denL]; rw [e0, e1] <;> rfl, trivial, fun _ _ b hb => (by cases hb), hK, Nat.le_of_ble_eq_true rfl, ?_⟩
      clear hK
      clear e0 e1
      repeat' (first | (refine Wk.op ?_; intro K' hK') | (refine Wk.qop ?_; intro K' hK') | (refine hK' _ _ ?_; clear hK' K') | (refine hK' _ ?_; clear hK' K') | (refine hKT _ ?_; clear hKT hKF KT KF) | (refine hKF _ ?_; clear hKT hKF KT KF) | (refine Wk.cond ?_; intro KT KF hKT hKF) | (refine Wk.ret ?_) | (refine Wk.qnil ?_) | (refine Wk.draw ?_; intro K' hK') | (refine Wk.step rfl ?_) | (refine Wk.done ?_) | (with_reducible refine lexB_goal ?_; kernel_rfl) | (with_reducible refine lexT_goal ?_; kernel_rfl) | (refine And.intro ?_ ?_) | (intro hq; (try simp only [BF.H, Cel.eta, Rul.eta] at hq); (try (exfalso; first | omega | (simp [BF.b] at hq; done)))))
      all_goals (try simp only [Cel.eta, Rul.eta])
      all_goals (first | (with_reducible rfl) | exact trivial | assumption | exact Nat.le_of_ble_eq_true rfl | omega | skip)
      all_goals (first | (simp [Cel.eta, Rul.eta, den, denL, den_ofConst, BF.b, bfOf, Cel.sv, Rul.sv]; done) | (simp [Cel.eta, Rul.eta, den, denL, den_ofConst, BF.b, bfOf, Cel.sv, Rul.sv]; omega) | (simp [Cel.eta, Rul.eta, den, denL, den_ofConst, BF.b, bfOf, Cel.sv, Rul.sv]; (repeat' split) <;> omega) | (simp [Cel.eta, Rul.eta, den, denL, den_ofConst, BF.b, bfOf, Cel.sv, Rul.sv]; rw [Bool.eq_iff_iff]; (repeat' split) <;> simp <;> omega) | (simp [Cel.eta, Rul.eta, den, denL, den_ofConst, BF.b, bfOf, Cel.sv, Rul.sv, *]; done) | (simp [Cel.eta, Rul.eta, den, denL, den_ofConst, BF.b, bfOf, Cel.sv, Rul.sv, *]; omega))
    · exact hK.elim
def G31 : List (Nat × Ctr) := (3, c_lawA_CellCollides) :: G30
theorem okG31 : GsOk Try.prog G31 := GsOk.cons k_lawA_CellCollides okG30
end Go.Proofs.Ytcagdjbinkadpaa

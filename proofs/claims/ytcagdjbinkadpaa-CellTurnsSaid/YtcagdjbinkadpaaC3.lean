/- Contracts: what the functions hand back. -/
import Derived.Test.YtcagdjbinkadpaaC2
import Derived.Test.YtcagdjbinkadpaaSpTurn
import Derived.WalkSpells
import Derived.RegionTactic
import Derived.BigRegion
set_option linter.unusedSimpArgs false
set_option linter.unusedVariables false
namespace Go.Proofs.Ytcagdjbinkadpaa
open Go.Sx Go.RowKit

def c_cell_Turned : Ctr := fun args _ K => match args with
  | [x0, x1] => c1 x0 fun c => i1 x1 fun q => (I64 q) ∧ K (.tup [Cel.sv (c.turned q).1, .int .i64 (c.turned q).2])
  | _ => False
noncomputable def X_cell_Turned : Env Try.prog := ⟨Try.f26.ntmps, TT, G46, [], Try.f26.results.toList, TT_ok, okG46, EsOk.nil _, mixed⟩
set_option maxHeartbeats 2000000 in
theorem k_cell_Turned : COk Try.prog 26 c_cell_Turned :=
  ctr_of_wk X_cell_Turned Try.func26 rfl (by kernel_rfl) rfl rfl fun args hp K hK => by
    unfold c_cell_Turned at hK
    split at hK
    · obtain ⟨c, hK, e0⟩ := iff_c1 hK
      obtain ⟨q, hK, e1⟩ := iff_i1 hK
      obtain ⟨hpre, hK⟩ := hK
      obtain ⟨t, ht, ht1, ht2, htm⟩ := tmod4 q
      have hm0 := htm 0 (by omega) (by omega)
      have hm1 := htm (0 + 1) (by omega) (by omega)
      have hm2 := htm (0 + 1 + 1) (by omega) (by omega)
      have hm3 := htm (0 + 1 + 1 + 1) (by omega) (by omega)
      clear htm
      refine ⟨[Cel.sv c, .int .i64 q], [], _, by simp only [denL]; rw [e0, e1] <;> rfl, trivial, fun _ _ b hb => (by cases hb), hK, Nat.le_of_ble_eq_true rfl, ?_⟩
      clear hK
      clear e0 e1
      repeat' (first | (refine Wk.op ?_; intro K' hK') | (refine Wk.qop ?_; intro K' hK') | (refine hK' _ _ ?_; clear hK' K') | (refine hK' _ ?_; clear hK' K') | (refine hKT _ ?_; clear hKT hKF KT KF) | (refine hKF _ ?_; clear hKT hKF KT KF) | (refine Wk.cond ?_; intro KT KF hKT hKF) | (refine Wk.ret ?_) | (refine Wk.qnil ?_) | (refine Wk.draw ?_; intro K' hK') | (refine Wk.step rfl ?_) | (refine Wk.rounds 5 ?_) | (refine Wk.done ?_) | (with_reducible refine lexB_goal ?_; kernel_rfl) | (with_reducible refine lexT_goal ?_; kernel_rfl) | (refine And.intro ?_ ?_) | (intro hq; (try simp only [BF.H, Cel.eta, Rul.eta] at hq); (try simp only [ht, hm0, hm1, hm2, hm3] at hq); (try (exfalso; first | omega | (simp [BF.b] at hq; done)))))
      all_goals (try simp only [Cel.eta, Rul.eta])
      all_goals (first | (with_reducible rfl) | exact trivial | assumption | exact Nat.le_of_ble_eq_true rfl | omega | skip)
      all_goals (first | exact Nat.le_of_ble_eq_true rfl | (simp [ht]; omega) | (simp only [ht, hm0, hm1, hm2, hm3]; omega) | (simp [den, denL, den_ofConst, Cel.sv, Cel.turned, Cel.rot, Cel.zero, *]; done) | (have hq4 : q % 4 = 0 := (by omega); simp [den, denL, den_ofConst, Cel.sv, Cel.turned, Cel.rot, Cel.zero, hq4, *]; done) | (have hq4 : q % 4 = 1 := (by omega); simp [den, denL, den_ofConst, Cel.sv, Cel.turned, Cel.rot, Cel.zero, hq4, *]; done) | (have hq4 : q % 4 = 2 := (by omega); simp [den, denL, den_ofConst, Cel.sv, Cel.turned, Cel.rot, Cel.zero, hq4, *]; done) | (have hq4 : q % 4 = 3 := (by omega); simp [den, denL, den_ofConst, Cel.sv, Cel.turned, Cel.rot, Cel.zero, hq4, *]; done))
    · exact hK.elim
def G47 : List (Nat × Ctr) := (26, c_cell_Turned) :: G46
theorem okG47 : GsOk Try.prog G47 := GsOk.cons k_cell_Turned okG46
def c_refA_Quarter : Ctr := fun args _ K => match args with
  | [x0] => c1 x0 fun c => K (Cel.sv (c.rot 1))
  | _ => False
noncomputable def X_refA_Quarter : Env Try.prog := ⟨Try.f85.ntmps, TT, G47, [], Try.f85.results.toList, TT_ok, okG47, EsOk.nil _, mixed⟩
theorem k_refA_Quarter : COk Try.prog 85 c_refA_Quarter :=
  ctr_of_wk X_refA_Quarter Try.func85 rfl (by kernel_rfl) rfl rfl fun args hp K hK => by
    unfold c_refA_Quarter at hK
    split at hK
    · obtain ⟨c, hK, e0⟩ := iff_c1 hK
      refine ⟨[Cel.sv c], [], _, by simp only [denL]; rw [e0] <;> rfl, trivial, fun _ _ b hb => (by cases hb), hK, Nat.le_of_ble_eq_true rfl, ?_⟩
      clear hK
      clear e0
      repeat' (first | (refine Wk.op ?_; intro K' hK') | (refine Wk.qop ?_; intro K' hK') | (refine hK' _ _ ?_; clear hK' K') | (refine hK' _ ?_; clear hK' K') | (refine hKT _ ?_; clear hKT hKF KT KF) | (refine hKF _ ?_; clear hKT hKF KT KF) | (refine Wk.cond ?_; intro KT KF hKT hKF) | (refine Wk.ret ?_) | (refine Wk.qnil ?_) | (refine Wk.draw ?_; intro K' hK') | (refine Wk.step rfl ?_) | (refine Wk.done ?_) | (with_reducible refine lexB_goal ?_; kernel_rfl) | (with_reducible refine lexT_goal ?_; kernel_rfl) | (refine And.intro ?_ ?_) | (intro hq; (try simp only [BF.H, Cel.eta, Rul.eta] at hq); (try (exfalso; first | omega | (simp [BF.b] at hq; done)))))
      all_goals (try simp only [Cel.eta, Rul.eta])
      all_goals (first | (with_reducible rfl) | exact trivial | assumption | exact Nat.le_of_ble_eq_true rfl | omega | skip)
      all_goals (first | (have h9 := Cel.facts (by assumption); (first | omega | (simp [Cel.eta, Rul.eta, den, denL, den_ofConst, BF.b, bfOf, Cel.sv, Rul.sv, Cel.rot, *]; done) | (simp [Cel.eta, Rul.eta, den, denL, den_ofConst, BF.b, bfOf, Cel.sv, Rul.sv, Cel.rot, *]; omega))) | (simp [Cel.eta, Rul.eta, den, denL, den_ofConst, BF.b, bfOf, Cel.sv, Rul.sv, Cel.rot]; done) | (simp [Cel.eta, Rul.eta, den, denL, den_ofConst, BF.b, bfOf, Cel.sv, Rul.sv, Cel.rot]; omega) | (simp [Cel.eta, Rul.eta, den, denL, den_ofConst, BF.b, bfOf, Cel.sv, Rul.sv, Cel.rot]; (repeat' split) <;> omega) | (simp [Cel.eta, Rul.eta, den, denL, den_ofConst, BF.b, bfOf, Cel.sv, Rul.sv, Cel.rot]; rw [Bool.eq_iff_iff]; (repeat' split) <;> simp <;> omega) | (simp [Cel.eta, Rul.eta, den, denL, den_ofConst, BF.b, bfOf, Cel.sv, Rul.sv, Cel.rot, *]; done) | (simp [Cel.eta, Rul.eta, den, denL, den_ofConst, BF.b, bfOf, Cel.sv, Rul.sv, Cel.rot, *]; omega))
    · exact hK.elim
def G48 : List (Nat × Ctr) := (85, c_refA_Quarter) :: G47
theorem okG48 : GsOk Try.prog G48 := GsOk.cons k_refA_Quarter okG47
def c_refA_Turned : Ctr := fun args _ K => match args with
  | [x0, x1] => c1 x0 fun c => i1 x1 fun q => (I64 q) ∧ K (.tup [Cel.sv (c.turned q).1, .int .i64 (c.turned q).2])
  | _ => False
noncomputable def X_refA_Turned : Env Try.prog := ⟨Try.f27.ntmps, TT, G48, [], Try.f27.results.toList, TT_ok, okG48, EsOk.nil _, mixed⟩
theorem k_refA_Turned : COk Try.prog 27 c_refA_Turned :=
  ctr_of_wk X_refA_Turned Try.func27 rfl (by kernel_rfl) rfl rfl fun args hp K hK => by
    unfold c_refA_Turned at hK
    split at hK
    · obtain ⟨c, hK, e0⟩ := iff_c1 hK
      obtain ⟨q, hK, e1⟩ := iff_i1 hK
      obtain ⟨hpre, hK⟩ := hK
      have hb := bits_and3 q
      refine ⟨[Cel.sv c, .int .i64 q], [], _, by simp only [denL]; rw [e0, e1] <;> rfl, trivial, fun _ _ b hb => (by cases hb), hK, Nat.le_of_ble_eq_true rfl, ?_⟩
      clear hK
      clear e0 e1
      repeat' (first | (refine Wk.op ?_; intro K' hK') | (refine Wk.qop ?_; intro K' hK') | (refine hK' _ _ ?_; clear hK' K') | (refine hK' _ ?_; clear hK' K') | (refine hKT _ ?_; clear hKT hKF KT KF) | (refine hKF _ ?_; clear hKT hKF KT KF) | (refine Wk.cond ?_; intro KT KF hKT hKF) | (refine Wk.ret ?_) | (refine Wk.qnil ?_) | (refine Wk.draw ?_; intro K' hK') | (refine Wk.step rfl ?_) | (refine Wk.rounds 5 ?_) | (refine Wk.done ?_) | (with_reducible refine lexB_goal ?_; kernel_rfl) | (with_reducible refine lexT_goal ?_; kernel_rfl) | (refine And.intro ?_ ?_) | (intro hq; (try simp only [BF.H, Cel.eta, Rul.eta] at hq); (try simp only [hb] at hq); (try (exfalso; first | omega | (simp [BF.b] at hq; done)))))
      all_goals (try simp only [Cel.eta, Rul.eta])
      all_goals (first | (with_reducible rfl) | exact trivial | assumption | exact Nat.le_of_ble_eq_true rfl | omega | skip)
      all_goals (first | exact Nat.le_of_ble_eq_true rfl | (simp only [hb]; omega) | (simp [den, denL, den_ofConst, Cel.sv, Cel.turned, Cel.rot, Cel.zero, *]; done) | (have hq4 : q % 4 = 0 := (by omega); simp [den, denL, den_ofConst, Cel.sv, Cel.turned, Cel.rot, Cel.zero, hq4, *]; done) | (have hq4 : q % 4 = 1 := (by omega); simp [den, denL, den_ofConst, Cel.sv, Cel.turned, Cel.rot, Cel.zero, hq4, *]; done) | (have hq4 : q % 4 = 2 := (by omega); simp [den, denL, den_ofConst, Cel.sv, Cel.turned, Cel.rot, Cel.zero, hq4, *]; done) | (have hq4 : q % 4 = 3 := (by omega); simp [den, denL, den_ofConst, Cel.sv, Cel.turned, Cel.rot, Cel.zero, hq4, *]; done))
    · exact hK.elim
def G49 : List (Nat × Ctr) := (27, c_refA_Turned) :: G48
theorem okG49 : GsOk Try.prog G49 := GsOk.cons k_refA_Turned okG48
def c_cell_Mirrored : Ctr := fun args _ K => match args with
  | [x0] => c1 x0 fun c => K (.tup [Cel.sv c.mirrored.1, .int .i64 c.mirrored.2])
  | _ => False
noncomputable def X_cell_Mirrored : Env Try.prog := ⟨Try.f28.ntmps, TT, G49, [], Try.f28.results.toList, TT_ok, okG49, EsOk.nil _, mixed⟩
theorem k_cell_Mirrored : COk Try.prog 28 c_cell_Mirrored :=
  ctr_of_wk X_cell_Mirrored Try.func28 rfl (by kernel_rfl) rfl rfl fun args hp K hK => by
    unfold c_cell_Mirrored at hK
    split at hK
    · obtain ⟨c, hK, e0⟩ := iff_c1 hK
      refine ⟨[Cel.sv c], [], _, by simp only [denL]; rw [e0] <;> rfl, trivial, fun _ _ b hb => (by cases hb), hK, Nat.le_of_ble_eq_true rfl, ?_⟩
      clear hK
      clear e0
      repeat' (first | (refine Wk.op ?_; intro K' hK') | (refine Wk.qop ?_; intro K' hK') | (refine hK' _ _ ?_; clear hK' K') | (refine hK' _ ?_; clear hK' K') | (refine hKT _ ?_; clear hKT hKF KT KF) | (refine hKF _ ?_; clear hKT hKF KT KF) | (refine Wk.cond ?_; intro KT KF hKT hKF) | (refine Wk.ret ?_) | (refine Wk.qnil ?_) | (refine Wk.draw ?_; intro K' hK') | (refine Wk.step rfl ?_) | (refine Wk.done ?_) | (with_reducible refine lexB_goal ?_; kernel_rfl) | (with_reducible refine lexT_goal ?_; kernel_rfl) | (refine And.intro ?_ ?_) | (intro hq; (try simp only [BF.H, Cel.eta, Rul.eta] at hq); (try (exfalso; first | omega | (simp [BF.b] at hq; done)))))
      all_goals (try simp only [Cel.eta, Rul.eta])
      all_goals (first | (with_reducible rfl) | exact trivial | assumption | exact Nat.le_of_ble_eq_true rfl | omega | skip)
      all_goals (first | (have h9 := Cel.facts (by assumption); (first | omega | (simp [Cel.eta, Rul.eta, den, denL, den_ofConst, BF.b, bfOf, Cel.sv, Rul.sv, Cel.mirrored, Cel.mir, Cel.zero, *]; done) | (simp [Cel.eta, Rul.eta, den, denL, den_ofConst, BF.b, bfOf, Cel.sv, Rul.sv, Cel.mirrored, Cel.mir, Cel.zero, *]; omega))) | (simp [Cel.eta, Rul.eta, den, denL, den_ofConst, BF.b, bfOf, Cel.sv, Rul.sv, Cel.mirrored, Cel.mir, Cel.zero]; done) | (simp [Cel.eta, Rul.eta, den, denL, den_ofConst, BF.b, bfOf, Cel.sv, Rul.sv, Cel.mirrored, Cel.mir, Cel.zero]; omega) | (simp [Cel.eta, Rul.eta, den, denL, den_ofConst, BF.b, bfOf, Cel.sv, Rul.sv, Cel.mirrored, Cel.mir, Cel.zero]; (repeat' split) <;> omega) | (simp [Cel.eta, Rul.eta, den, denL, den_ofConst, BF.b, bfOf, Cel.sv, Rul.sv, Cel.mirrored, Cel.mir, Cel.zero]; rw [Bool.eq_iff_iff]; (repeat' split) <;> simp <;> omega) | (simp [Cel.eta, Rul.eta, den, denL, den_ofConst, BF.b, bfOf, Cel.sv, Rul.sv, Cel.mirrored, Cel.mir, Cel.zero, *]; done) | (simp [Cel.eta, Rul.eta, den, denL, den_ofConst, BF.b, bfOf, Cel.sv, Rul.sv, Cel.mirrored, Cel.mir, Cel.zero, *]; omega))
    · exact hK.elim
def G50 : List (Nat × Ctr) := (28, c_cell_Mirrored) :: G49
theorem okG50 : GsOk Try.prog G50 := GsOk.cons k_cell_Mirrored okG49
def c_refA_Mirror : Ctr := fun args _ K => match args with
  | [x0] => c1 x0 fun c => K (Cel.sv c.mir)
  | _ => False
noncomputable def X_refA_Mirror : Env Try.prog := ⟨Try.f86.ntmps, TT, G50, [], Try.f86.results.toList, TT_ok, okG50, EsOk.nil _, mixed⟩
theorem k_refA_Mirror : COk Try.prog 86 c_refA_Mirror :=
  ctr_of_wk X_refA_Mirror Try.func86 rfl (by kernel_rfl) rfl rfl fun args hp K hK => by
    unfold c_refA_Mirror at hK
    split at hK
    · obtain ⟨c, hK, e0⟩ := iff_c1 hK
      refine ⟨[Cel.sv c], [], _, by simp only [denL]; rw [e0] <;> rfl, trivial, fun _ _ b hb => (by cases hb), hK, Nat.le_of_ble_eq_true rfl, ?_⟩
      clear hK
      clear e0
      repeat' (first | (refine Wk.op ?_; intro K' hK') | (refine Wk.qop ?_; intro K' hK') | (refine hK' _ _ ?_; clear hK' K') | (refine hK' _ ?_; clear hK' K') | (refine hKT _ ?_; clear hKT hKF KT KF) | (refine hKF _ ?_; clear hKT hKF KT KF) | (refine Wk.cond ?_; intro KT KF hKT hKF) | (refine Wk.ret ?_) | (refine Wk.qnil ?_) | (refine Wk.draw ?_; intro K' hK') | (refine Wk.step rfl ?_) | (refine Wk.done ?_) | (with_reducible refine lexB_goal ?_; kernel_rfl) | (with_reducible refine lexT_goal ?_; kernel_rfl) | (refine And.intro ?_ ?_) | (intro hq; (try simp only [BF.H, Cel.eta, Rul.eta] at hq); (try (exfalso; first | omega | (simp [BF.b] at hq; done)))))
      all_goals (try simp only [Cel.eta, Rul.eta])
      all_goals (first | (with_reducible rfl) | exact trivial | assumption | exact Nat.le_of_ble_eq_true rfl | omega | skip)
      all_goals (first | (have h9 := Cel.facts (by assumption); (first | omega | (simp [Cel.eta, Rul.eta, den, denL, den_ofConst, BF.b, bfOf, Cel.sv, Rul.sv, Cel.mir, *]; done) | (simp [Cel.eta, Rul.eta, den, denL, den_ofConst, BF.b, bfOf, Cel.sv, Rul.sv, Cel.mir, *]; omega))) | (simp [Cel.eta, Rul.eta, den, denL, den_ofConst, BF.b, bfOf, Cel.sv, Rul.sv, Cel.mir]; done) | (simp [Cel.eta, Rul.eta, den, denL, den_ofConst, BF.b, bfOf, Cel.sv, Rul.sv, Cel.mir]; omega) | (simp [Cel.eta, Rul.eta, den, denL, den_ofConst, BF.b, bfOf, Cel.sv, Rul.sv, Cel.mir]; (repeat' split) <;> omega) | (simp [Cel.eta, Rul.eta, den, denL, den_ofConst, BF.b, bfOf, Cel.sv, Rul.sv, Cel.mir]; rw [Bool.eq_iff_iff]; (repeat' split) <;> simp <;> omega) | (simp [Cel.eta, Rul.eta, den, denL, den_ofConst, BF.b, bfOf, Cel.sv, Rul.sv, Cel.mir, *]; done) | (simp [Cel.eta, Rul.eta, den, denL, den_ofConst, BF.b, bfOf, Cel.sv, Rul.sv, Cel.mir, *]; omega))
    · exact hK.elim
def G51 : List (Nat × Ctr) := (86, c_refA_Mirror) :: G50
theorem okG51 : GsOk Try.prog G51 := GsOk.cons k_refA_Mirror okG50
def c_refA_Mirrored : Ctr := fun args _ K => match args with
  | [x0] => c1 x0 fun c => K (.tup [Cel.sv c.mirrored.1, .int .i64 c.mirrored.2])
  | _ => False
noncomputable def X_refA_Mirrored : Env Try.prog := ⟨Try.f29.ntmps, TT, G51, [], Try.f29.results.toList, TT_ok, okG51, EsOk.nil _, mixed⟩
theorem k_refA_Mirrored : COk Try.prog 29 c_refA_Mirrored :=
  ctr_of_wk X_refA_Mirrored Try.func29 rfl (by kernel_rfl) rfl rfl fun args hp K hK => by
    unfold c_refA_Mirrored at hK
    split at hK
    · obtain ⟨c, hK, e0⟩ := iff_c1 hK
      refine ⟨[Cel.sv c], [], _, by simp only [denL]; rw [e0] <;> rfl, trivial, fun _ _ b hb => (by cases hb), hK, Nat.le_of_ble_eq_true rfl, ?_⟩
      clear hK
      clear e0
      repeat' (first | (refine Wk.op ?_; intro K' hK') | (refine Wk.qop ?_; intro K' hK') | (refine hK' _ _ ?_; clear hK' K') | (refine hK' _ ?_; clear hK' K') | (refine hKT _ ?_; clear hKT hKF KT KF) | (refine hKF _ ?_; clear hKT hKF KT KF) | (refine Wk.cond ?_; intro KT KF hKT hKF) | (refine Wk.ret ?_) | (refine Wk.qnil ?_) | (refine Wk.draw ?_; intro K' hK') | (refine Wk.step rfl ?_) | (refine Wk.done ?_) | (with_reducible refine lexB_goal ?_; kernel_rfl) | (with_reducible refine lexT_goal ?_; kernel_rfl) | (refine And.intro ?_ ?_) | (intro hq; (try simp only [BF.H, Cel.eta, Rul.eta] at hq); (try (exfalso; first | omega | (simp [BF.b] at hq; done)))))
      all_goals (try simp only [Cel.eta, Rul.eta])
      all_goals (first | (with_reducible rfl) | exact trivial | assumption | exact Nat.le_of_ble_eq_true rfl | omega | skip)
      all_goals (first | (have h9 := Cel.facts (by assumption); (first | omega | (simp [Cel.eta, Rul.eta, den, denL, den_ofConst, BF.b, bfOf, Cel.sv, Rul.sv, Cel.mirrored, Cel.mir, Cel.zero, *]; done) | (simp [Cel.eta, Rul.eta, den, denL, den_ofConst, BF.b, bfOf, Cel.sv, Rul.sv, Cel.mirrored, Cel.mir, Cel.zero, *]; omega))) | (simp [Cel.eta, Rul.eta, den, denL, den_ofConst, BF.b, bfOf, Cel.sv, Rul.sv, Cel.mirrored, Cel.mir, Cel.zero]; done) | (simp [Cel.eta, Rul.eta, den, denL, den_ofConst, BF.b, bfOf, Cel.sv, Rul.sv, Cel.mirrored, Cel.mir, Cel.zero]; omega) | (simp [Cel.eta, Rul.eta, den, denL, den_ofConst, BF.b, bfOf, Cel.sv, Rul.sv, Cel.mirrored, Cel.mir, Cel.zero]; (repeat' split) <;> omega) | (simp [Cel.eta, Rul.eta, den, denL, den_ofConst, BF.b, bfOf, Cel.sv, Rul.sv, Cel.mirrored, Cel.mir, Cel.zero]; rw [Bool.eq_iff_iff]; (repeat' split) <;> simp <;> omega) | (simp [Cel.eta, Rul.eta, den, denL, den_ofConst, BF.b, bfOf, Cel.sv, Rul.sv, Cel.mirrored, Cel.mir, Cel.zero, *]; done) | (simp [Cel.eta, Rul.eta, den, denL, den_ofConst, BF.b, bfOf, Cel.sv, Rul.sv, Cel.mirrored, Cel.mir, Cel.zero, *]; omega))
    · exact hK.elim
def G52 : List (Nat × Ctr) := (29, c_refA_Mirrored) :: G51
theorem okG52 : GsOk Try.prog G52 := GsOk.cons k_refA_Mirrored okG51
def c_lawA_CellTurns : Ctr := fun args _ K => match args with
  | [x0, x1, x2] => c1 x0 fun c => i1 x1 fun q => r1 x2 fun r => (I64 q) ∧ K (.bool .tt)
  | _ => False
noncomputable def X_lawA_CellTurns : Env Try.prog := ⟨Try.f5.ntmps, TT, G52, [], Try.f5.results.toList, TT_ok, okG52, EsOk.nil _, mixed⟩
theorem k_lawA_CellTurns : COk Try.prog 5 c_lawA_CellTurns :=
  ctr_of_wk X_lawA_CellTurns Try.func5 rfl (by kernel_rfl) rfl rfl fun args hp K hK => by
    unfold c_lawA_CellTurns at hK
    split at hK
    · obtain ⟨c, hK, e0⟩ := iff_c1 hK
      obtain ⟨q, hK, e1⟩ := iff_i1 hK
      obtain ⟨r, hK, e2⟩ := iff_r1 hK
      obtain ⟨hpre, hK⟩ := hK
      obtain ⟨hq1, hq2⟩ := hpre
      refine ⟨[Cel.sv c, .int .i64 q, Rul.sv r], [], _, by simp only [denL]; rw [e0, e1, e2] <;> rfl, trivial, fun _ _ b hb => (by cases hb), hK, Nat.le_of_ble_eq_true rfl, ?_⟩
      clear hK
      clear e0 e1 e2
      repeat' (first | (refine Wk.op ?_; intro K' hK') | (refine Wk.qop ?_; intro K' hK') | (refine hK' _ _ ?_; clear hK' K') | (refine hK' _ ?_; clear hK' K') | (refine hKT _ ?_; clear hKT hKF KT KF) | (refine hKF _ ?_; clear hKT hKF KT KF) | (refine Wk.cond ?_; intro KT KF hKT hKF) | (refine Wk.ret ?_) | (refine Wk.qnil ?_) | (refine Wk.draw ?_; intro K' hK') | (refine Wk.step rfl ?_) | (refine Wk.done ?_) | (with_reducible refine lexB_goal ?_; kernel_rfl) | (with_reducible refine lexT_goal ?_; kernel_rfl) | (refine And.intro ?_ ?_) | (intro hq; (try simp only [BF.H, Cel.eta, Rul.eta] at hq); (try (exfalso; first | omega | (simp [BF.b] at hq; done)))))
      all_goals (try simp only [Cel.eta, Rul.eta])
      all_goals (first | (with_reducible rfl) | exact trivial | assumption | exact Nat.le_of_ble_eq_true rfl | omega | skip)
      all_goals (first | rfl | assumption | exact Nat.le_of_ble_eq_true rfl | (exfalso; cases hc : c.ok <;> (first | (simp [BF.b, Cel.mirrored, Cel.turned, hc] at *; done) | (obtain ⟨h1, h2, h3, h4, h5⟩ := Cel.turns q hc; obtain ⟨h6, h7⟩ := Cel.mirs r hc; simp [BF.b, h1, h2, h3, h4, h5, h6] at * <;> simp_all))))
    · exact hK.elim
def G53 : List (Nat × Ctr) := (5, c_lawA_CellTurns) :: G52
theorem okG53 : GsOk Try.prog G53 := GsOk.cons k_lawA_CellTurns okG52
end Go.Proofs.Ytcagdjbinkadpaa

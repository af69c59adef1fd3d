/- Contracts: what the functions hand back. -/
import Derived.Test.YtbcajalaopjmdaaKGL
import Derived.Test.YtbcajalaopjmdaaSpKeep
set_option linter.unusedSimpArgs false
set_option linter.unusedVariables false
set_option maxRecDepth 100000
namespace Go.Proofs.Ytbcajalaopjmdaa
open Go.Sy Go.RowKit

def c_lawB_awake : Ctr := fun args _ K => match args with
  | [] => K (.bool .tt)
  | _ => False
noncomputable def X_lawB_awake : Env Try.prog := ⟨Try.f17.ntmps, TT, G61, E50, Try.f17.results.toList, [], TT_ok, okG61, okE50, mixed⟩
theorem k_lawB_awake : COk Try.prog 17 c_lawB_awake :=
  ctr_of_wk X_lawB_awake Try.func17 rfl (by kernel_rfl) rfl rfl fun args hp K hK => by
    unfold c_lawB_awake at hK
    split at hK
    · refine ⟨[], [], _, rfl, trivial, fun _ _ b hb => (by cases hb), hK, Nat.le_of_ble_eq_true rfl, ?_⟩
      clear hK
      have hA := awakePer
      repeat' (first | (refine Wk.op ?_; intro K' hK') | (refine Wk.xqOp ?_; intro K' hK') | (refine Wk.rgOne ?_; intro K' hK') | (refine Wk.rgPure ?_; intro K' hK') | (refine Wk.rgX ?_; intro K' hK') | (refine Wk.xqNew ?_; intro K' hK') | (refine Wk.xqEnd ?_) | (refine Wk.rgDone ?_) | (refine Wk.rgTwo ?_ ?_ <;> intro K' hK') | (refine Wk.rgH ?_ ?_) | (refine Wk.rsTake ?_; intro K' hK') | (refine Wk.rsOne ?_ (fun K' hK' => ?_)) | (refine Wk.rsTwo ?_ ?_ (fun K' hK' => ?_) (fun K' hK' => ?_)) | (refine Wk.rsDone ?_) | (refine hK' _ _ ?_ ?_ <;> clear hK' K') | (refine hK' _ _ ?_; clear hK' K') | (refine hK' _ ?_; clear hK' K') | (refine hKT _ ?_; clear hKT hKF KT KF) | (refine hKF _ ?_; clear hKT hKF KT KF) | (refine Wk.cond ?_; intro KT KF hKT hKF) | (refine Wk.ret ?_) | (refine Wk.draw ?_ ?_ ?_; rotate_left 2; (intro K' hK')) | (refine Wk.step rfl ?_) | (refine Wk.done ?_) | (refine Fin.plain trivial ?_) | ((with_reducible refine top_goal ?_); kernel_rfl) | ((with_reducible refine takes_goal ?_); kernel_rfl) | ((with_reducible refine drop_goal ?_); kernel_rfl) | ((with_reducible refine held_goal ?_); (repeat refine And.intro rfl ?_); exact trivial) | ((with_reducible refine allB_goal ?_); kernel_rfl) | ((with_reducible refine mine_goal ?_); exact mine_of rfl) | ((with_reducible refine withV_goal ?_); refine withV_mk rfl ?_) | ((with_reducible refine hsel_goal ?_); (first | (exact hsel.nil) | (refine hsel.take (HB.like.refl _) (.inr fun _ h => h) ?_) | (refine hsel.take (like_l ?_) (.inl rfl) ?_) | (refine hsel.take (like_cts ?_) (.inl rfl) ?_) | (refine hsel.skip (spare_own rfl rfl) ?_) | (refine hsel.skip spare_ro ?_))) | (refine denL_cons ?_ ?_) | (refine sl_like ?_) | (refine And.intro ?_ ?_) | (intro hq; (try simp only [BF.H, Cel.eta, Rul.eta, Grd.eta, if_true, if_false, Int.toNat_natCast, Nat.add_zero] at hq); (try simp only [hA] at hq); (try (exfalso; first | omega | (simp [BF.b] at hq; done)))))
      all_goals (try simp only [Cel.eta, Rul.eta, Grd.eta, if_true, if_false, Int.toNat_natCast, Int.toNat_zero, Nat.add_zero, Nat.zero_add])
      all_goals (first | (with_reducible rfl) | (with_reducible exact trivial) | (with_reducible exact splitN_zero) | ((with_reducible refine fsub_goal ?_); exact trivial) | (with_reducible assumption) | ((with_reducible refine ble_goal ?_); rfl) | ((with_reducible refine ble2_goal ?_); (first | rfl | kernel_rfl)) | ((with_reducible refine beq_goal ?_); rfl) | omega | skip)
      all_goals (first | assumption | (with_reducible rfl) | omega | (simp only [Cts.len, List.length_nil]; done) | (simp only [Cts.len, List.length_nil, Int.toNat_natCast, Nat.add_zero, Nat.zero_add]; omega) | exact isSome_of (by assumption) | (simp only [Cts.len, Int.toNat_natCast, Nat.add_zero, Nat.zero_add] at *; first | assumption | omega) | exact int_eq (by omega) | exact cst_eq (by omega) | exact lit_eq (by omega) | rfl)
    · exact hK.elim
def G62 : List (Nat × Ctr) := (17, c_lawB_awake) :: G61
theorem okG62 : GsOk Try.prog G62 := GsOk.cons k_lawB_awake okG61
noncomputable def X_lawB_Small : Env Try.prog := ⟨Try.f16.ntmps, TT, G62, E50, Try.f16.results.toList, [], TT_ok, okG62, okE50, mixed⟩
noncomputable def code_lawB_Small : Code := match Try.f16.body with | some c => c | none => .skip
theorem k_lawB_Small : EOk Try.prog 16 (inl X_lawB_Small code_lawB_Small) := inl_ok X_lawB_Small Try.func16 rfl (by kernel_rfl) rfl rfl
noncomputable def E51 : List (Nat × ECtr) := (16, inl X_lawB_Small code_lawB_Small) :: E50
theorem okE51 : EsOk Try.prog E51 := EsOk.cons k_lawB_Small okE50
def c_lawB_GridKept : Ctr := fun args hp K => match args with
  | [x0, x1, x2] => g1 x0 hp fun g => lr x1 hp fun l => i1 x2 fun t => (g.cs.length ≤ 9223372036854775807 ∧ l.length ≤ 9223372036854775807 ∧ I64 t) ∧ K (.bool .tt)
  | _ => False
noncomputable def X_lawB_GridKept : Env Try.prog := ⟨Try.f12.ntmps, TT, G62, E51, Try.f12.results.toList, [], TT_ok, okG62, okE51, mixed⟩
set_option maxHeartbeats 8000000 in
theorem k_lawB_GridKept : COk Try.prog 12 c_lawB_GridKept :=
  ctr_of_wk X_lawB_GridKept Try.func12 rfl (by kernel_rfl) rfl rfl fun args hp K hK => by
    unfold c_lawB_GridKept at hK
    split at hK
    · obtain ⟨g, ag, capg, hK1, e0, posg, vwg⟩ := iff_g1 hK; clear hK; have hK := hK1; clear hK1
      obtain ⟨l, al, capl, hK1, sl⟩ := iff_lr hK; clear hK; have hK := hK1; clear hK1
      have posl : 0 < l.length → al.isSome = true := sl.pos
      obtain ⟨t, hK1, e2⟩ := iff_i1 hK; clear hK; have hK := hK1; clear hK1
      obtain ⟨hpre, hK⟩ := hK
      refine ⟨[.agg [.int .i64 g.w, .int .i64 g.h, .sl 0 ag 0 4 g.cs.length capg], .sl 1 al 0 2 l.length capl, .int .i64 t], [⟨ag, false, .ro, .cx g.cs⟩, ⟨al, false, .ro, .rx l⟩], _, denL_cons (e0) (denL_cons (sl.eq) (denL_cons (e2.symm) (rfl))), ⟨trivial, ⟨trivial, trivial⟩⟩, fun w hw b hb => (by simp only [List.mem_cons, List.not_mem_nil, or_false] at hb; rcases hb with rfl | rfl <;> first | exact vwg w hw | exact sl.ok w hw), hK, Nat.le_of_ble_eq_true rfl, ?_⟩
      clear hK
      have hln := run_len g l t 1; rcases kept_law g l t with h2 | ⟨h2, hv, hv2, he, he2, hm, hx, hy, ⟨hb1, hb2⟩, hc1, hc2⟩
      all_goals (repeat' (first | (refine Wk.yield rfl rfl rfl (by assumption) rfl rfl rfl ?_; intro K' hK') | (refine Wk.br rfl rfl rfl rfl ?_) | (refine Fin.roundN rfl rfl ?_) | (refine Fin.roundR rfl rfl ?_) | (refine Wk.exitOut rfl ?_) | (refine Fin.roundE rfl rfl ?_) | (refine Wk.range rfl rfl rfl ?_; intro Tr fnr Dr lr hTr K' hK') | (refine Wk.rangeIn rfl rfl rfl ?_; intro Tr fnr lr hTr K' hK') | (refine RangeEnd.none rfl rfl rfl rfl ?_) | (refine RangeEnd.some rfl rfl rfl rfl ?_) | (refine Wk.k (t := []) ?_) | (refine Wk.op ?_; intro K' hK') | (refine Wk.xqOp ?_; intro K' hK') | (refine Wk.rgOne ?_; intro K' hK') | (refine Wk.rgPure ?_; intro K' hK') | (refine Wk.rgX ?_; intro K' hK') | (refine Wk.xqNew ?_; intro K' hK') | (refine Wk.xqEnd ?_) | (refine Wk.rgDone ?_) | (refine Wk.rgTwo ?_ ?_ <;> intro K' hK') | (refine Wk.rgH ?_ ?_) | (refine Wk.rsTake ?_; intro K' hK') | (refine Wk.rsOne ?_ (fun K' hK' => ?_)) | (refine Wk.rsTwo ?_ ?_ (fun K' hK' => ?_) (fun K' hK' => ?_)) | (refine Wk.rsDone ?_) | (refine hK' _ _ ?_ ?_ <;> clear hK' K') | (refine hK' _ _ ?_; clear hK' K') | (refine hK' _ ?_; clear hK' K') | (refine hKT _ ?_; clear hKT hKF KT KF) | (refine hKF _ ?_; clear hKT hKF KT KF) | (refine Wk.cond ?_; intro KT KF hKT hKF) | (refine Wk.ret ?_) | (refine Wk.draw ?_ ?_ ?_; rotate_left 2; (intro K' hK')) | (refine Wk.step rfl ?_) | (refine Wk.done ?_) | (refine Fin.plain trivial ?_) | (refine Fin.marks trivial rfl rfl rfl ?_) | ((with_reducible refine top_goal ?_); kernel_rfl) | ((with_reducible refine takes_goal ?_); kernel_rfl) | ((with_reducible refine drop_goal ?_); kernel_rfl) | ((with_reducible refine held_goal ?_); (repeat refine And.intro rfl ?_); exact trivial) | ((with_reducible refine allB_goal ?_); kernel_rfl) | ((with_reducible refine mine_goal ?_); exact mine_of rfl) | ((with_reducible refine withV_goal ?_); refine withV_mk rfl ?_) | ((with_reducible refine hsel_goal ?_); (first | (exact hsel.nil) | (refine hsel.take (HB.like.refl _) (.inr fun _ h => h) ?_) | (refine hsel.take (like_l ?_) (.inl rfl) ?_) | (refine hsel.take (like_cts ?_) (.inl rfl) ?_) | (refine hsel.skip (spare_own rfl rfl) ?_) | (refine hsel.skip spare_ro ?_))) | (refine denL_cons ?_ ?_) | (refine sl_like ?_) | (refine And.intro ?_ ?_) | (intro hq; (try simp only [BF.H, Cel.eta, Rul.eta, Grd.eta, if_true, if_false, Int.toNat_natCast, Nat.add_zero] at hq); (try simp only [h2, he, he2, hm, hx, hy, hb1, hb2, hc1, hc2, Grd.eta] at hq); (try (exfalso; first | omega | (simp [BF.b] at hq; done))))))
      all_goals (try simp only [Cel.eta, Rul.eta, Grd.eta, if_true, if_false, Int.toNat_natCast, Int.toNat_zero, Nat.add_zero, Nat.zero_add])
      all_goals (first | (with_reducible rfl) | (with_reducible exact trivial) | (with_reducible exact splitN_zero) | ((with_reducible refine fsub_goal ?_); exact trivial) | (with_reducible assumption) | ((with_reducible refine ble_goal ?_); rfl) | ((with_reducible refine ble2_goal ?_); (first | rfl | kernel_rfl)) | ((with_reducible refine beq_goal ?_); rfl) | omega | skip)
      all_goals (first | assumption | (with_reducible rfl) | omega | (simp only [Cts.len, List.length_nil]; done) | (simp only [Cts.len, List.length_nil, Int.toNat_natCast, Nat.add_zero, Nat.zero_add]; omega) | exact isSome_of (by assumption) | (simp only [Cts.len, Int.toNat_natCast, Nat.add_zero, Nat.zero_add] at *; first | assumption | omega) | exact int_eq (by omega) | exact cst_eq (by omega) | exact lit_eq (by omega) | exact posg (by omega) | exact opt_getD (posg (by omega)) _ | exact posl (by omega) | exact opt_getD (posl (by omega)) _ | rfl | exact mine_of rfl | exact Nat.le_of_ble_eq_true rfl | exact hpre.1 | exact hpre.2 | exact hpre.2.1 | exact hpre.2.2 | (rw [hln.1]; omega) | (rw [hln.2.1]; omega) | (rw [hln.2.2]; omega) | (exfalso; simp [h2, he, he2, hm, hx, hy, hb1, hb2, hc1, hc2] at *; done) | (exfalso; simp [h2] at *; done) | (rw [hb2]; omega) | (rw [hc2]; omega) | (simp only [hb2] at *; omega) | (simp only [hc2] at *; omega) | (intro h9; (first | assumption | (exact (by assumption) h9))) | (exact (‹0 < List.length _ → Option.isSome _ = true›) (by omega)) | exact hpre.2.2 | exact hpre.2.2.1 | exact hpre.2.2.2 | (unfold I64; omega) | exact I64_mk (by omega) (by omega) | (have ha := hln; omega) | (have ha := hln; have hb := hln2; omega))
    · exact hK.elim
def G63 : List (Nat × Ctr) := (12, c_lawB_GridKept) :: G62
theorem okG63 : GsOk Try.prog G63 := GsOk.cons k_lawB_GridKept okG62
end Go.Proofs.Ytbcajalaopjmdaa

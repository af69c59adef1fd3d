/- Contracts: what the functions hand back. -/
import Derived.Test.YtghflfilemhaoaaKPE
set_option linter.unusedSimpArgs false
set_option linter.unusedVariables false
set_option maxRecDepth 100000
namespace Go.Proofs.Ytghflfilemhaoaa
open Go.Sy Go.RowKit

def c_refB_Same : Ctr := fun args hp K => match args with
  | [x0, x1] => g1 x0 hp fun a => g1 x1 hp fun b => (a.cs.length ≤ 1200 ∧ b.cs.length ≤ 1200) ∧ K (.bool (.atom (decide (a = b))))
  | _ => False
noncomputable def X_refB_Same : Env Try.prog := ⟨Try.f21.ntmps, TT, G39, E17, Try.f21.results.toList, [], TT_ok, okG39, okE17, mixed⟩
theorem k_refB_Same : COk Try.prog 21 c_refB_Same :=
  ctr_of_wk X_refB_Same Try.func21 rfl (by kernel_rfl) rfl rfl fun args hp K hK => by
    unfold c_refB_Same at hK
    split at hK
    · obtain ⟨a, aa, capa, hK1, e0, posa, vwa⟩ := iff_g1 hK; clear hK; have hK := hK1; clear hK1
      obtain ⟨b, ab, capb, hK1, e1, posb, vwb⟩ := iff_g1 hK; clear hK; have hK := hK1; clear hK1
      obtain ⟨hpre, hK⟩ := hK
      refine ⟨[.agg [.int .i64 a.w, .int .i64 a.h, .sl 0 aa 0 4 a.cs.length capa], .agg [.int .i64 b.w, .int .i64 b.h, .sl 1 ab 0 4 b.cs.length capb]], [⟨aa, false, .ro, .cx a.cs⟩, ⟨ab, false, .ro, .cx b.cs⟩], _, denL_cons (e0) (denL_cons (e1) (rfl)), ⟨trivial, ⟨trivial, trivial⟩⟩, fun w hw b hb => (by simp only [List.mem_cons, List.not_mem_nil, or_false] at hb; rcases hb with rfl | rfl <;> first | exact vwa w hw | exact vwb w hw), hK, Nat.le_of_ble_eq_true rfl, ?_⟩
      clear hK
      repeat' (first | (refine Wk.op ?_; intro K' hK') | (refine Wk.xqOp ?_; intro K' hK') | (refine Wk.rgOne ?_; intro K' hK') | (refine Wk.rgPure ?_; intro K' hK') | (refine Wk.rgX ?_; intro K' hK') | (refine Wk.xqNew ?_; intro K' hK') | (refine Wk.xqEnd ?_) | (refine Wk.rgDone ?_) | (refine Wk.rgTwo ?_ ?_ <;> intro K' hK') | (refine Wk.rgH ?_ ?_) | (refine Wk.rsTake ?_; intro K' hK') | (refine Wk.rsOne ?_ (fun K' hK' => ?_)) | (refine Wk.rsTwo ?_ ?_ (fun K' hK' => ?_) (fun K' hK' => ?_)) | (refine Wk.rsDone ?_) | (refine hK' _ _ ?_ ?_ <;> clear hK' K') | (refine hK' _ _ ?_; clear hK' K') | (refine hK' _ ?_; clear hK' K') | (refine hKT _ ?_; clear hKT hKF KT KF) | (refine hKF _ ?_; clear hKT hKF KT KF) | (refine Wk.cond ?_; intro KT KF hKT hKF) | (refine Wk.ret ?_) | (refine Wk.draw ?_ ?_ ?_; rotate_left 2; (intro K' hK')) | (refine Wk.step rfl ?_) | (refine Wk.done ?_) | (refine Fin.plain trivial ?_) | ((with_reducible refine top_goal ?_); kernel_rfl) | ((with_reducible refine takes_goal ?_); kernel_rfl) | ((with_reducible refine drop_goal ?_); kernel_rfl) | ((with_reducible refine held_goal ?_); (repeat refine And.intro rfl ?_); exact trivial) | ((with_reducible refine allB_goal ?_); kernel_rfl) | ((with_reducible refine mine_goal ?_); exact mine_of rfl) | ((with_reducible refine withV_goal ?_); refine withV_mk rfl ?_) | ((with_reducible refine hsel_goal ?_); (first | (exact hsel.nil) | (refine hsel.take (HB.like.refl _) (.inr fun _ h => h) ?_) | (refine hsel.take (like_cts ?_) (.inl rfl) ?_) | (refine hsel.skip (spare_own rfl rfl) ?_) | (refine hsel.skip spare_ro ?_))) | (refine And.intro ?_ ?_) | (intro hq; (try simp only [BF.H, Cel.eta, Rul.eta, Grd.eta, if_true, if_false, Int.toNat_natCast, Nat.add_zero] at hq); (try (exfalso; first | omega | (simp [BF.b] at hq; done)))))
      all_goals (try simp only [Cel.eta, Rul.eta, Grd.eta, if_true, if_false, Int.toNat_natCast, Int.toNat_zero, Nat.add_zero, Nat.zero_add])
      all_goals (first | (with_reducible rfl) | (with_reducible exact trivial) | (with_reducible exact splitN_zero) | ((with_reducible refine fsub_goal ?_); exact trivial) | (with_reducible assumption) | ((with_reducible refine ble_goal ?_); rfl) | ((with_reducible refine ble2_goal ?_); (first | rfl | kernel_rfl)) | ((with_reducible refine beq_goal ?_); rfl) | omega | skip)
      all_goals (first | assumption | (with_reducible rfl) | omega | (simp only [Cts.len, List.length_nil]; done) | (simp only [Cts.len, List.length_nil, Int.toNat_natCast, Nat.add_zero, Nat.zero_add]; omega) | exact isSome_of (by assumption) | (simp only [Cts.len, Int.toNat_natCast, Nat.add_zero, Nat.zero_add] at *; first | assumption | omega) | exact int_eq (by omega) | exact cst_eq (by omega) | exact lit_eq (by omega) | exact posa (by omega) | exact opt_getD (posa (by omega)) _ | exact posb (by omega) | exact opt_getD (posb (by omega)) _ | rfl | exact res_ff (gne_w (by omega)) | exact res_ff (gne_h (by omega)) | exact res_f' (gne_w (by omega)) | exact res_f' (gne_h (by omega)) | exact res_b (geq_c (by omega) (by omega)))
    · exact hK.elim
def G40 : List (Nat × Ctr) := (21, c_refB_Same) :: G39
theorem okG40 : GsOk Try.prog G40 := GsOk.cons k_refB_Same okG39
end Go.Proofs.Ytghflfilemhaoaa
